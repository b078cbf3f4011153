/- Laws of my own that the statement leans on; part A8. -/
import Derived.Test.YtjcbamenfaoffaaGreatDoorA7
set_option linter.unusedVariables false
set_option linter.unusedSimpArgs false
open List (length replicate getD drop take)
open Option.some (inj injEq)
open Int (toNat)
open Go.IntKind (wrap)
set_option maxRecDepth 100000
set_option linter.unusedVariables false
namespace Go.Proofs.YtjcbamenfaoffaaGreatDoor
open Go.RowKit
noncomputable def F_lossy_Put (x0:(List S93.ty)) (x1:(List S93.ty)):Option (List S93.ty) :=
 if ((0:Int)≤mn ((length x1:Nat):Int) (mx 0 (wrap .i64 ((4096:Int) - ((length x0:Nat):Int))))∧0≤toNat (mn ((length x1:Nat):Int) (mx 0 (wrap .i64 ((4096:Int) - ((length x0:Nat):Int)))))∧toNat (mn ((length x1:Nat):Int) (mx 0 (wrap .i64 ((4096:Int) - ((length x0:Nat):Int)))))≤length x1) then (F_slices_Concat_api_Letter_api_Letter [x0,drop 0 (take (toNat (mn ((length x1:Nat):Int) (mx 0 (wrap .i64 ((4096:Int) - ((length x0:Nat):Int)))))) x1)]).bind fun t1=>(some t1) else none
theorem W_lossy_Put {x0:(List S93.ty)} {x1:(List S93.ty)} {y:(List S93.ty)} (hF0:F_lossy_Put x0 x1=some y):Pure Tryz.prog 90 [.v (.sl S93) x0,.v (.sl S93) x1] (.v (.sl S93) y):=by
 unfold F_lossy_Put at hF0
 refine pure_of_run @Tryz.call90 @Tryz.func90 rfl rfl fun w M ho=>?_
 refine sq rfl (rg [(0,.v (.sl S93) x0),(1,.v (.sl S93) x1)] [] [] [] 5000 rfl (by kernel_rfl) c0 (sq rfl (rg [(0,.v (.sl S93) x0),(1,.v (.sl S93) x1),(5,vi (mx 0 (wrap .i64 ((4096:Int) - ((length x0:Nat):Int)))))] [] [] [] 5000 rfl (by kernel_rfl) c0 (sq rfl ?_))))
 obtain ⟨h1,hF0⟩:=ifg hF0
 obtain ⟨t1,h2,hF0⟩:=obd hF0
 refine rg [(4,.v (.sl S93) t1)] [] [(7,⟨[],.v (.sl (.sl S93)) [x0,drop 0 (take (toNat (mn ((length x1:Nat):Int) (mx 0 (wrap .i64 ((4096:Int) - ((length x0:Nat):Int)))))) x1)],none⟩),(8,⟨[.v (.sl (.sl S93))],.v (.sl S93) t1,none⟩)] [] 5000 rfl (by kernel_rfl) (cc h1.1 (cc h1.2.1 (cc h1.2.2 (cc (W_slices_Concat_api_Letter_api_Letter h2) c0)))) ?_
 obtain rfl:=inj hF0
 exact ret_pure (q:=[.v (.sl S93) t1]) [(.sl S93)] rfl rfl (by kernel_rfl)
noncomputable def F_lossy_places_b1 (x0:(List S93.ty)) (x1:Int) (x2:Int) (s1:(Int × (List Int))):Option ((Int × (List Int)) ⊕ (List Int)) :=
 if (decide (s1.1 < ((length x0:Nat):Int)))=true then if 0≤s1.1∧s1.1 < ((length x0:Nat):Int) then (show Option Bool from if (((getD x0 (toNat s1.1) S93.dflt).1) == x1)=true then some ((((getD x0 (toNat s1.1) S93.dflt).2).1) == x2) else some false).bind (fun r2=>if (r2)=true then if apOk (length s1.2 + 1) 8 then (some (Sum.inl (wrap .i64 (s1.1 + 1),s1.2++[s1.1]))) else none else some (Sum.inl (wrap .i64 (s1.1 + 1),s1.2))) else none else some (Sum.inr s1.2)
noncomputable def F_lossy_places (x0:(List S93.ty)) (x1:Int) (x2:Int):Option (List Int) :=
 (loopO (F_lossy_places_b1 x0 x1 x2) (0,[])).bind (fun r1=>some r1)
theorem W_lossy_places {x0:(List S93.ty)} {x1:Int} {x2:Int} {y:(List Int)} (hF0:F_lossy_places x0 x1 x2=some y):Pure Tryz.prog 161 [.v (.sl S93) x0,vi x1,vi x2] (.v (.sl (.int .i64)) y):=by
 unfold F_lossy_places at hF0
 refine pure_of_run @Tryz.call161 @Tryz.func161 rfl rfl fun w M ho=>?_
 refine sq rfl (rg [(0,.v (.sl S93) x0),(1,vi x1),(2,vi x2)] [] [] [] 5000 rfl (by kernel_rfl) c0 (sq rfl (rg [(0,.v (.sl S93) x0),(1,vi x1),(2,vi x2),(7,.v (.nl .any) ())] [] [] [] 5000 rfl (by kernel_rfl) c0 (sq rfl (sq rfl (rg [(1,vi x1),(2,vi x2),(7,.v (.nl .any) ()),(10,.v (.sl S93) x0),(11,vi ((length x0:Nat):Int)),(12,vi 0)] [] [] [] 5000 rfl (by kernel_rfl) c0 (bk rfl (run_nilrow (ρ':=[(1,vi x1),(2,vi x2),(7,.row 1107),(10,.v (.sl S93) x0),(11,vi ((length x0:Nat):Int)),(12,vi 0)]) 7 1107 3 (.int .i64) rfl (by kernel_rfl) (by kernel_rfl) ?_))))))))
 obtain ⟨r1,hl1,hF0⟩:=obd hF0
 refine run_cutx 0 rfl (fun r1'=>r1=r1') (fun r1=>[(7,.row 1107)]) (fun r1=>[(1107,.row 3 (.int .i64) r1)]) (fun r1' h1=>?_) (fun J1_0=>?_)
 ·subst h1
  refine sq rfl (rg [(6,.row 1107)] [(1107,.row 3 (.int .i64) r1)] [] [] 5000 rfl (by kernel_rfl) c0 ?_)
  obtain rfl:=inj hF0
  refine run_frz (ρ':=[(6,.v (.sl (.int .i64)) r1)]) (H':=[]) 1107 rfl rfl rfl (by kernel_rfl) (by kernel_rfl) ?_
  exact ret_pure (q:=[.v (.sl (.int .i64)) r1]) [(.sl (.int .i64))] rfl rfl (by kernel_rfl)
 refine run_loop rfl (run_loopO hl1 (fun s1=>[(1,vi x1),(2,vi x2),(7,.row 1107),(10,.v (.sl S93) x0),(11,vi ((length x0:Nat):Int)),(12,vi s1.1)]) (fun s1=>[(1107,.row 3 (.int .i64) s1.2)]) rfl rfl (fun s1 o1 hF1 ih1 hr1=>?_))
 unfold F_lossy_places_b1 at hF1
 refine run_again (sq rfl (rg [(1,vi x1),(2,vi x2),(7,.row 1107),(10,.v (.sl S93) x0),(11,vi ((length x0:Nat):Int)),(12,vi s1.1),(13,vb (decide (s1.1 < ((length x0:Nat):Int))))] [(1107,.row 3 (.int .i64) s1.2)] [] [] 5000 rfl (by kernel_rfl) c0 (sq rfl ?_)))
 refine run_if rfl rfl (fun h2=>?_) (fun h2=>?_)
 ·replace hF1:=ift h2 hF1
  refine sk rfl (sq rfl (bk rfl (sq rfl ?_)))
  obtain ⟨h3,hF1⟩:=ifg hF1
  refine rg [(1,vi x1),(2,vi x2),(7,.row 1107),(8,vi s1.1),(9,.ptr 5060 [] 0),(10,.v (.sl S93) x0),(11,vi ((length x0:Nat):Int)),(12,vi s1.1)] [(1107,.row 3 (.int .i64) s1.2),(5060,.var 93 S93 (getD x0 (toNat s1.1) S93.dflt))] [] [] 5000 rfl (by kernel_rfl) (cc h3 c0) (sq rfl ?_)
  obtain ⟨r2,hF2,hF1⟩:=obd hF1
  refine run_cut (fun r2'=>r2=r2') (fun r2=>[(1,vi x1),(2,vi x2),(7,.row 1107),(8,vi s1.1),(10,.v (.sl S93) x0),(11,vi ((length x0:Nat):Int)),(12,vi s1.1),(26,vb r2)]) (fun r2=>[(1107,.row 3 (.int .i64) s1.2)]) (fun r2' h4=>?_) (fun J2_0=>?_)
  ·subst h4
   refine run_if rfl rfl (fun h5=>?_) (fun h5=>?_)
   ·replace hF1:=ift h5 hF1
    obtain ⟨h6,hF1⟩:=ifg hF1
    refine rg [(1,vi x1),(2,vi x2),(7,.row 5060),(10,.v (.sl S93) x0),(11,vi ((length x0:Nat):Int)),(12,vi s1.1)] [(5060,.row 3 (.int .i64) (s1.2++[s1.1]))] [] [] 5000 rfl (by kernel_rfl) (cc h6.1 (cc h6.2 c0)) (eb (rg [(1,vi x1),(2,vi x2),(7,.row 5060),(10,.v (.sl S93) x0),(11,vi ((length x0:Nat):Int)),(12,vi (wrap .i64 (s1.1 + 1)))] [(5060,.row 3 (.int .i64) (s1.2++[s1.1]))] [] [] 5061 rfl (by kernel_rfl) c0 (run_ren (ρ':=[(1,vi x1),(2,vi x2),(7,.row 1107),(10,.v (.sl S93) x0),(11,vi ((length x0:Nat):Int)),(12,vi (wrap .i64 (s1.1 + 1)))]) (H':=[(1107,.row 3 (.int .i64) (s1.2++[s1.1]))]) 5060 1107 rfl (by kernel_rfl) rfl (by kernel_rfl) rfl ?_)))
    exact ih1 _ (inj hF1).symm
   ·replace hF1:=ifn h5 hF1
    refine sk rfl (eb (rg [(1,vi x1),(2,vi x2),(7,.row 1107),(10,.v (.sl S93) x0),(11,vi ((length x0:Nat):Int)),(12,vi (wrap .i64 (s1.1 + 1)))] [(1107,.row 3 (.int .i64) s1.2)] [] [] 5000 rfl (by kernel_rfl) c0 ?_))
    exact ih1 _ (inj hF1).symm
  rcases Bool.eq_false_or_eq_true (((getD x0 (toNat s1.1) S93.dflt).1) == x1) with h7 | h7
  ·replace hF2:=ift h7 hF2
   refine rg [(1,vi x1),(2,vi x2),(7,.row 1107),(8,vi s1.1),(10,.v (.sl S93) x0),(11,vi ((length x0:Nat):Int)),(12,vi s1.1),(26,vb ((((getD x0 (toNat s1.1) S93.dflt).2).1) == x2))] [(1107,.row 3 (.int .i64) s1.2)] [] [(4,true)] 5061 rfl (by kernel_rfl) (cc h7 c0) ?_
   exact J2_0 _ (inj hF2).symm
  ·replace hF2:=ifn h7 hF2
   refine rg [(1,vi x1),(2,vi x2),(7,.row 1107),(8,vi s1.1),(10,.v (.sl S93) x0),(11,vi ((length x0:Nat):Int)),(12,vi s1.1),(26,vb false)] [(1107,.row 3 (.int .i64) s1.2)] [] [(4,false)] 5061 rfl (by kernel_rfl) (cc h7 c0) ?_
   exact J2_0 _ (inj hF2).symm
 ·replace hF1:=ifn h2 hF1
  refine run_exit rfl rfl (tm (ρ':=[(7,.row 1107)]) (H':=[(1107,.row 3 (.int .i64) s1.2)]) (by kernel_rfl) (by kernel_rfl) rfl ?_)
  exact J1_0 _ (inrI hr1 hF1).symm
noncomputable def F_lossy_Find (x0:(List S93.ty)) (x1:Int) (x2:Int) (x3:Int):Option (Int × Bool) :=
 (F_lossy_places x0 x1 x2).bind fun t1=>(if (((length t1:Nat):Int) == 0)=true then some (0,false) else if ((length t1:Nat):Int)≠(0:Int) then (if ((length t1:Nat):Int)≠(0:Int) then (if 0≤(Int.tmod (wrap .i64 ((Int.tmod x3 ((length t1:Nat):Int)) + ((length t1:Nat):Int))) ((length t1:Nat):Int))∧(Int.tmod (wrap .i64 ((Int.tmod x3 ((length t1:Nat):Int)) + ((length t1:Nat):Int))) ((length t1:Nat):Int)) < ((length t1:Nat):Int) then (some (getD t1 (toNat (Int.tmod (wrap .i64 ((Int.tmod x3 ((length t1:Nat):Int)) + ((length t1:Nat):Int))) ((length t1:Nat):Int))) 0,true)) else none) else none) else none)
theorem W_lossy_Find {x0:(List S93.ty)} {x1:Int} {x2:Int} {x3:Int} {y:(Int × Bool)} (hF0:F_lossy_Find x0 x1 x2 x3=some y):Pure Tryz.prog 129 [.v (.sl S93) x0,vi x1,vi x2,vi x3] (.tup [vi y.1,vb y.2]):=by
 unfold F_lossy_Find at hF0
 refine pure_of_run @Tryz.call129 @Tryz.func129 rfl rfl fun w M ho=>?_
 refine sq rfl (rg [(0,.v (.sl S93) x0),(1,vi x1),(2,vi x2),(3,vi x3)] [] [] [] 5000 rfl (by kernel_rfl) c0 (sq rfl ?_))
 obtain ⟨t1,h1,hF0⟩:=obd hF0
 refine rg [(3,vi x3),(10,.v (.sl (.int .i64)) t1)] [] [(3,⟨[.v (.sl S93),.v (.int .i64),.v (.int .i64)],.v (.sl (.int .i64)) t1,none⟩)] [] 5000 rfl (by kernel_rfl) (cc (W_lossy_places h1) c0) (sq rfl (rg [(3,vi x3),(10,.v (.sl (.int .i64)) t1),(11,vi ((length t1:Nat):Int))] [] [] [] 5000 rfl (by kernel_rfl) c0 (sq rfl (sq rfl (rg [(3,vi x3),(10,.v (.sl (.int .i64)) t1),(11,vi ((length t1:Nat):Int)),(19,vb (((length t1:Nat):Int) == 0))] [] [] [] 5000 rfl (by kernel_rfl) c0 ?_)))))
 refine run_if rfl rfl (fun h2=>?_) (fun h2=>?_)
 ·replace hF0:=ift h2 hF0
  refine sq rfl (rg [(8,vi 0),(9,vb false)] [] [] [] 5000 rfl (by kernel_rfl) c0 ?_)
  obtain rfl:=inj hF0
  exact ret_pure (q:=[vi 0,vb false]) [(.int .i64),.bool] rfl rfl (by kernel_rfl)
 ·replace hF0:=ifn h2 hF0
  refine sk rfl (sq rfl ?_)
  obtain ⟨h3,hF0⟩:=ifg hF0
  obtain ⟨h4,hF0⟩:=ifg hF0
  obtain ⟨h5,hF0⟩:=ifg hF0
  refine rg [(8,vi (getD t1 (toNat (Int.tmod (wrap .i64 ((Int.tmod x3 ((length t1:Nat):Int)) + ((length t1:Nat):Int))) ((length t1:Nat):Int))) 0)),(9,vb true)] [] [] [] 5000 rfl (by kernel_rfl) (cc h3 (cc h4 (cc h5 c0))) ?_
  obtain rfl:=inj hF0
  exact ret_pure (q:=[vi (getD t1 (toNat (Int.tmod (wrap .i64 ((Int.tmod x3 ((length t1:Nat):Int)) + ((length t1:Nat):Int))) ((length t1:Nat):Int))) 0),vb true]) [(.int .i64),.bool] rfl rfl (by kernel_rfl)
noncomputable def F_lossy_Take (x0:(List S93.ty)) (x1:Int) (x2:Int) (x3:Int):Option ((List S93.ty) × S93.ty × Bool) :=
 (F_slices_Clone_api_Letter_api_Letter x0).bind fun t1=>((F_lossy_Find x0 x1 x2 x3).bind fun t2=>(if (!t2.2)=true then some (t1,(0,(0,([],false))),false) else (F_slices_Delete_api_Letter_api_Letter t1 t2.1 (wrap .i64 (t2.1 + 1))).bind fun t3=>(if 0≤t2.1∧t2.1 < ((length x0:Nat):Int) then (some (t3,getD x0 (toNat t2.1) S93.dflt,true)) else none)))
theorem W_lossy_Take {x0:(List S93.ty)} {x1:Int} {x2:Int} {x3:Int} {y:((List S93.ty) × S93.ty × Bool)} (hF0:F_lossy_Take x0 x1 x2 x3=some y):Pure Tryz.prog 92 [.v (.sl S93) x0,vi x1,vi x2,vi x3] (.tup [.v (.sl S93) y.1,.v S93 y.2.1,vb y.2.2]):=by
 unfold F_lossy_Take at hF0
 refine pure_of_run @Tryz.call92 @Tryz.func92 rfl rfl fun w M ho=>?_
 refine sq rfl (rg [(0,.v (.sl S93) x0),(1,vi x1),(2,vi x2),(3,vi x3),(9,.ptr 5020 [] 0)] [(5020,.var 93 S93 (0,(0,([],false))))] [] [] 5000 rfl (by kernel_rfl) c0 (sq rfl ?_))
 obtain ⟨t1,h1,hF0⟩:=obd hF0
 refine rg [(0,.v (.sl S93) x0),(1,vi x1),(2,vi x2),(3,vi x3),(9,.ptr 5020 [] 0),(11,.row 5041)] [(5020,.var 93 S93 (0,(0,([],false)))),(5041,.row 93 S93 t1)] [(1,⟨[.v (.sl S93)],.row 0,some ([],[(0,.row 93 S93 t1)])⟩)] [] 5021 rfl (by kernel_rfl) (cc (W_slices_Clone_api_Letter_api_Letter h1) c0) (sq rfl ?_)
 obtain ⟨t2,h2,hF0⟩:=obd hF0
 refine rg [(0,.v (.sl S93) x0),(9,.ptr 5020 [] 0),(11,.row 5041),(12,vi t2.1),(13,vb t2.2)] [(5020,.var 93 S93 (0,(0,([],false)))),(5041,.row 93 S93 t1)] [(4,⟨[.v (.sl S93),.v (.int .i64),.v (.int .i64),.v (.int .i64)],.tup [vi t2.1,vb t2.2],none⟩)] [] 5042 rfl (by kernel_rfl) (cc (W_lossy_Find h2) c0) (sq rfl (sq rfl (rg [(0,.v (.sl S93) x0),(9,.ptr 5020 [] 0),(11,.row 5041),(12,vi t2.1),(25,vb (!t2.2))] [(5020,.var 93 S93 (0,(0,([],false)))),(5041,.row 93 S93 t1)] [] [] 5042 rfl (by kernel_rfl) c0 ?_)))
 refine run_if rfl rfl (fun h3=>?_) (fun h3=>?_)
 ·replace hF0:=ift h3 hF0
  refine sq rfl (rg [(8,.row 5041),(9,.ptr 5020 [] 0),(10,vb false)] [(5020,.var 93 S93 (0,(0,([],false)))),(5041,.row 93 S93 t1)] [] [] 5042 rfl (by kernel_rfl) c0 ?_)
  obtain rfl:=inj hF0
  refine run_frz (ρ':=[(8,.v (.sl S93) t1),(9,.ptr 5020 [] 0),(10,vb false)]) (H':=[(5020,.var 93 S93 (0,(0,([],false))))]) 5041 rfl rfl rfl (by kernel_rfl) (by kernel_rfl) ?_
  exact ret_pure (q:=[.v (.sl S93) t1,.v S93 (0,(0,([],false))),vb false]) [(.sl S93),S93,.bool] rfl rfl (by kernel_rfl)
 ·replace hF0:=ifn h3 hF0
  refine sk rfl (sq rfl ?_)
  obtain ⟨t3,h4,hF0⟩:=obd hF0
  obtain ⟨h5,hF0⟩:=ifg hF0
  refine rG [(8,.row 5123),(9,.ptr 5020 [] 0),(10,vb true)] [(5020,.var 93 S93 (getD x0 (toNat t2.1) S93.dflt)),(5123,.row 93 S93 t3)] [(4,⟨[.v .unit,.v (.int .i64),.v (.int .i64)],.row 1,some ([5041],[(1,.row 93 S93 t3)])⟩)] [] 5042 rfl rfl (by kernel_rfl) (cc (W_slices_Delete_api_Letter_api_Letter h4) (cc h5 c0)) ?_
  obtain rfl:=inj hF0
  refine run_frz (ρ':=[(8,.v (.sl S93) t3),(9,.ptr 5020 [] 0),(10,vb true)]) (H':=[(5020,.var 93 S93 (getD x0 (toNat t2.1) S93.dflt))]) 5123 rfl rfl rfl (by kernel_rfl) (by kernel_rfl) ?_
  exact ret_pure (q:=[.v (.sl S93) t3,.v S93 (getD x0 (toNat t2.1) S93.dflt),vb true]) [(.sl S93),S93,.bool] rfl rfl (by kernel_rfl)
noncomputable def F_lossy_Turn_b2 (t1:(List S93.ty)) (t2:(Int × Bool)) (x4:Int) (x5:Int) (s2:(Int × (List Int))):Option ((Int × (List Int)) ⊕ (List Int)) :=
 if (decide (s2.1 < (mn 4 (wrap .i64 (((length (byI ((((getD t1 (toNat t2.1) S93.dflt).2).2).1)):Nat):Int) - x4)))))=true then if 0≤(wrap .i64 (x4 + s2.1))∧(wrap .i64 (x4 + s2.1)) < ((length s2.2:Nat):Int) then (if (0:Int)≤(wrap .i64 ((8:Int) * s2.1)) then (if 0≤(wrap .i64 (x4 + s2.1))∧(wrap .i64 (x4 + s2.1)) < ((length s2.2:Nat):Int) then (some (Sum.inl (wrap .i64 (s2.1 + 1),List.set s2.2 (toNat (wrap .i64 (x4 + s2.1))) (bits .xor .u8 (getD s2.2 (toNat (wrap .i64 (x4 + s2.1))) 0) (wrap .u8 (Int.fdiv x5 (2 ^ min (toNat (wrap .i64 ((8:Int) * s2.1))) 32))))))) else none) else none) else none else some (Sum.inr s2.2)
noncomputable def F_lossy_Turn (x0:(List S93.ty)) (x1:Int) (x2:Int) (x3:Int) (x4:Int) (x5:Int):Option (List S93.ty) :=
 (F_slices_Clone_api_Letter_api_Letter x0).bind fun t1=>((F_lossy_Find x0 x1 x2 x3).bind fun t2=>((show Option Bool from if (!t2.2)=true then some true else if (decide (x4 < 0))=true then some true else if 0≤t2.1∧t2.1 < ((length x0:Nat):Int) then (if (decide (x4≥((length ((((getD x0 (toNat t2.1) S93.dflt).2).2).1):Nat):Int)))=true then some true else if 0≤t2.1∧t2.1 < ((length x0:Nat):Int) then (some ((((getD x0 (toNat t2.1) S93.dflt).2).2).2)) else none) else none).bind (fun r1=>if (r1)=true then some t1 else if 0≤t2.1∧t2.1 < ((length t1:Nat):Int) then (loopO (F_lossy_Turn_b2 t1 t2 x4 x5) (0,byI ((((getD t1 (toNat t2.1) S93.dflt).2).2).1))).bind (fun r2=>if 0≤t2.1∧t2.1 < ((length x0:Nat):Int) then (if 0≤t2.1∧t2.1 < ((length t1:Nat):Int) then (if 0≤t2.1∧t2.1 < ((length (List.set t1 (toNat t2.1) ((getD t1 (toNat t2.1) S93.dflt).1,(((getD t1 (toNat t2.1) S93.dflt).2).1,(iBy r2,(((getD t1 (toNat t2.1) S93.dflt).2).2).2)))):Nat):Int) then (some (List.set (List.set t1 (toNat t2.1) ((getD t1 (toNat t2.1) S93.dflt).1,(((getD t1 (toNat t2.1) S93.dflt).2).1,(iBy r2,(((getD t1 (toNat t2.1) S93.dflt).2).2).2)))) (toNat t2.1) ((getD (List.set t1 (toNat t2.1) ((getD t1 (toNat t2.1) S93.dflt).1,(((getD t1 (toNat t2.1) S93.dflt).2).1,(iBy r2,(((getD t1 (toNat t2.1) S93.dflt).2).2).2)))) (toNat t2.1) S93.dflt).1,(((getD (List.set t1 (toNat t2.1) ((getD t1 (toNat t2.1) S93.dflt).1,(((getD t1 (toNat t2.1) S93.dflt).2).1,(iBy r2,(((getD t1 (toNat t2.1) S93.dflt).2).2).2)))) (toNat t2.1) S93.dflt).2).1,((((getD (List.set t1 (toNat t2.1) ((getD t1 (toNat t2.1) S93.dflt).1,(((getD t1 (toNat t2.1) S93.dflt).2).1,(iBy r2,(((getD t1 (toNat t2.1) S93.dflt).2).2).2)))) (toNat t2.1) S93.dflt).2).2).1,!((iBy r2) == ((((getD x0 (toNat t2.1) S93.dflt).2).2).1))))))) else none) else none) else none) else none)))
theorem W_lossy_Turn {x0:(List S93.ty)} {x1:Int} {x2:Int} {x3:Int} {x4:Int} {x5:Int} {y:(List S93.ty)} (hF0:F_lossy_Turn x0 x1 x2 x3 x4 x5=some y):Pure Tryz.prog 91 [.v (.sl S93) x0,vi x1,vi x2,vi x3,vi x4,.v (.int .u32) x5] (.v (.sl S93) y):=by
 unfold F_lossy_Turn at hF0
 refine pure_of_run @Tryz.call91 @Tryz.func91 rfl rfl fun w M ho=>?_
 refine sq rfl (rg [(0,.v (.sl S93) x0),(1,vi x1),(2,vi x2),(3,vi x3),(4,vi x4),(5,.v (.int .u32) x5)] [] [] [] 5000 rfl (by kernel_rfl) c0 (sq rfl ?_))
 obtain ⟨t1,h1,hF0⟩:=obd hF0
 refine rg [(0,.v (.sl S93) x0),(1,vi x1),(2,vi x2),(3,vi x3),(4,vi x4),(5,.v (.int .u32) x5),(13,.row 5020)] [(5020,.row 93 S93 t1)] [(1,⟨[.v (.sl S93)],.row 0,some ([],[(0,.row 93 S93 t1)])⟩)] [] 5000 rfl (by kernel_rfl) (cc (W_slices_Clone_api_Letter_api_Letter h1) c0) (sq rfl ?_)
 obtain ⟨t2,h2,hF0⟩:=obd hF0
 refine rg [(0,.v (.sl S93) x0),(4,vi x4),(5,.v (.int .u32) x5),(13,.row 5020),(14,vi t2.1),(15,vb t2.2)] [(5020,.row 93 S93 t1)] [(4,⟨[.v (.sl S93),.v (.int .i64),.v (.int .i64),.v (.int .i64)],.tup [vi t2.1,vb t2.2],none⟩)] [] 5021 rfl (by kernel_rfl) (cc (W_lossy_Find h2) c0) (sq rfl (sq rfl ?_))
 obtain ⟨r1,hF1,hF0⟩:=obd hF0
 refine run_cut (fun r1'=>r1=r1') (fun r1=>[(0,.v (.sl S93) x0),(4,vi x4),(5,.v (.int .u32) x5),(13,.row 5020),(14,vi t2.1),(50,vb r1)]) (fun r1=>[(5020,.row 93 S93 t1)]) (fun r1' h3=>?_) (fun J1_0=>?_)
 ·subst h3
  refine run_if rfl rfl (fun h4=>?_) (fun h4=>?_)
  ·replace hF0:=ift h4 hF0
   refine sq rfl (rg [(12,.row 5020)] [(5020,.row 93 S93 t1)] [] [] 5021 rfl (by kernel_rfl) c0 ?_)
   obtain rfl:=inj hF0
   refine run_frz (ρ':=[(12,.v (.sl S93) t1)]) (H':=[]) 5020 rfl rfl rfl (by kernel_rfl) (by kernel_rfl) ?_
   exact ret_pure (q:=[.v (.sl S93) t1]) [(.sl S93)] rfl rfl (by kernel_rfl)
  ·replace hF0:=ifn h4 hF0
   refine sk rfl (sq rfl ?_)
   obtain ⟨h5,hF0⟩:=ifg hF0
   refine rg [(0,.v (.sl S93) x0),(4,vi x4),(5,.v (.int .u32) x5),(13,.row 5020),(14,vi t2.1),(16,.row 5121)] [(5020,.row 93 S93 t1),(5121,.row 5 .mb (byI ((((getD t1 (toNat t2.1) S93.dflt).2).2).1)))] [] [] 5021 rfl (by kernel_rfl) (cc h5 (cc (@rfl Nat ((toNat t2.1 * 4) + 2)) (cc (oo h5 trivial) c0))) (sq rfl (sq rfl (rg [(0,.v (.sl S93) x0),(4,vi x4),(5,.v (.int .u32) x5),(13,.row 5020),(14,vi t2.1),(16,.row 5121),(62,vi (mn 4 (wrap .i64 (((length (byI ((((getD t1 (toNat t2.1) S93.dflt).2).2).1)):Nat):Int) - x4)))),(63,vi 0)] [(5020,.row 93 S93 t1),(5121,.row 5 .mb (byI ((((getD t1 (toNat t2.1) S93.dflt).2).2).1)))] [] [] 5122 rfl (by kernel_rfl) c0 (bk rfl ?_))))
   obtain ⟨r2,hl2,hF0⟩:=obd hF0
   refine run_cutx 0 rfl (fun r2'=>r2=r2') (fun r2=>[(0,.v (.sl S93) x0),(13,.row 5020),(14,vi t2.1),(16,.row 5121)]) (fun r2=>[(5020,.row 93 S93 t1),(5121,.row 5 .mb r2)]) (fun r2' h6=>?_) (fun J2_0=>?_)
   ·subst h6
    refine sq rfl ?_
    obtain ⟨h7,hF0⟩:=ifg hF0
    obtain ⟨h8,hF0⟩:=ifg hF0
    obtain ⟨h9,hF0⟩:=ifg hF0
    refine rG [(13,.row 5020)] [(5020,.row 93 S93 (List.set (List.set t1 (toNat t2.1) ((getD t1 (toNat t2.1) S93.dflt).1,(((getD t1 (toNat t2.1) S93.dflt).2).1,(iBy r2,(((getD t1 (toNat t2.1) S93.dflt).2).2).2)))) (toNat t2.1) ((getD (List.set t1 (toNat t2.1) ((getD t1 (toNat t2.1) S93.dflt).1,(((getD t1 (toNat t2.1) S93.dflt).2).1,(iBy r2,(((getD t1 (toNat t2.1) S93.dflt).2).2).2)))) (toNat t2.1) S93.dflt).1,(((getD (List.set t1 (toNat t2.1) ((getD t1 (toNat t2.1) S93.dflt).1,(((getD t1 (toNat t2.1) S93.dflt).2).1,(iBy r2,(((getD t1 (toNat t2.1) S93.dflt).2).2).2)))) (toNat t2.1) S93.dflt).2).1,((((getD (List.set t1 (toNat t2.1) ((getD t1 (toNat t2.1) S93.dflt).1,(((getD t1 (toNat t2.1) S93.dflt).2).1,(iBy r2,(((getD t1 (toNat t2.1) S93.dflt).2).2).2)))) (toNat t2.1) S93.dflt).2).2).1,!((iBy r2) == ((((getD x0 (toNat t2.1) S93.dflt).2).2).1)))))))] [] [] 5122 rfl rfl (by kernel_rfl) (cc h7 (cc h8 (cc (@rfl Nat ((toNat t2.1 * 4) + 2)) (cc (oo h8 trivial) (cc h9 (cc (@rfl Nat ((toNat t2.1 * 4) + 3)) (cc (oo h9 trivial) c0))))))) (sq rfl (rg [(12,.row 5020)] [(5020,.row 93 S93 (List.set (List.set t1 (toNat t2.1) ((getD t1 (toNat t2.1) S93.dflt).1,(((getD t1 (toNat t2.1) S93.dflt).2).1,(iBy r2,(((getD t1 (toNat t2.1) S93.dflt).2).2).2)))) (toNat t2.1) ((getD (List.set t1 (toNat t2.1) ((getD t1 (toNat t2.1) S93.dflt).1,(((getD t1 (toNat t2.1) S93.dflt).2).1,(iBy r2,(((getD t1 (toNat t2.1) S93.dflt).2).2).2)))) (toNat t2.1) S93.dflt).1,(((getD (List.set t1 (toNat t2.1) ((getD t1 (toNat t2.1) S93.dflt).1,(((getD t1 (toNat t2.1) S93.dflt).2).1,(iBy r2,(((getD t1 (toNat t2.1) S93.dflt).2).2).2)))) (toNat t2.1) S93.dflt).2).1,((((getD (List.set t1 (toNat t2.1) ((getD t1 (toNat t2.1) S93.dflt).1,(((getD t1 (toNat t2.1) S93.dflt).2).1,(iBy r2,(((getD t1 (toNat t2.1) S93.dflt).2).2).2)))) (toNat t2.1) S93.dflt).2).2).1,!((iBy r2) == ((((getD x0 (toNat t2.1) S93.dflt).2).2).1)))))))] [] [] 5021 rfl (by kernel_rfl) c0 ?_))
    obtain rfl:=inj hF0
    refine run_frz (ρ':=[(12,.v (.sl S93) (List.set (List.set t1 (toNat t2.1) ((getD t1 (toNat t2.1) S93.dflt).1,(((getD t1 (toNat t2.1) S93.dflt).2).1,(iBy r2,(((getD t1 (toNat t2.1) S93.dflt).2).2).2)))) (toNat t2.1) ((getD (List.set t1 (toNat t2.1) ((getD t1 (toNat t2.1) S93.dflt).1,(((getD t1 (toNat t2.1) S93.dflt).2).1,(iBy r2,(((getD t1 (toNat t2.1) S93.dflt).2).2).2)))) (toNat t2.1) S93.dflt).1,(((getD (List.set t1 (toNat t2.1) ((getD t1 (toNat t2.1) S93.dflt).1,(((getD t1 (toNat t2.1) S93.dflt).2).1,(iBy r2,(((getD t1 (toNat t2.1) S93.dflt).2).2).2)))) (toNat t2.1) S93.dflt).2).1,((((getD (List.set t1 (toNat t2.1) ((getD t1 (toNat t2.1) S93.dflt).1,(((getD t1 (toNat t2.1) S93.dflt).2).1,(iBy r2,(((getD t1 (toNat t2.1) S93.dflt).2).2).2)))) (toNat t2.1) S93.dflt).2).2).1,!((iBy r2) == ((((getD x0 (toNat t2.1) S93.dflt).2).2).1)))))))]) (H':=[]) 5020 rfl rfl rfl (by kernel_rfl) (by kernel_rfl) ?_
    exact ret_pure (q:=[.v (.sl S93) (List.set (List.set t1 (toNat t2.1) ((getD t1 (toNat t2.1) S93.dflt).1,(((getD t1 (toNat t2.1) S93.dflt).2).1,(iBy r2,(((getD t1 (toNat t2.1) S93.dflt).2).2).2)))) (toNat t2.1) ((getD (List.set t1 (toNat t2.1) ((getD t1 (toNat t2.1) S93.dflt).1,(((getD t1 (toNat t2.1) S93.dflt).2).1,(iBy r2,(((getD t1 (toNat t2.1) S93.dflt).2).2).2)))) (toNat t2.1) S93.dflt).1,(((getD (List.set t1 (toNat t2.1) ((getD t1 (toNat t2.1) S93.dflt).1,(((getD t1 (toNat t2.1) S93.dflt).2).1,(iBy r2,(((getD t1 (toNat t2.1) S93.dflt).2).2).2)))) (toNat t2.1) S93.dflt).2).1,((((getD (List.set t1 (toNat t2.1) ((getD t1 (toNat t2.1) S93.dflt).1,(((getD t1 (toNat t2.1) S93.dflt).2).1,(iBy r2,(((getD t1 (toNat t2.1) S93.dflt).2).2).2)))) (toNat t2.1) S93.dflt).2).2).1,!((iBy r2) == ((((getD x0 (toNat t2.1) S93.dflt).2).2).1))))))]) [(.sl S93)] rfl rfl (by kernel_rfl)
   refine run_loop rfl (run_loopO hl2 (fun s2=>[(0,.v (.sl S93) x0),(4,vi x4),(5,.v (.int .u32) x5),(13,.row 5020),(14,vi t2.1),(16,.row 5121),(62,vi (mn 4 (wrap .i64 (((length (byI ((((getD t1 (toNat t2.1) S93.dflt).2).2).1)):Nat):Int) - x4)))),(63,vi s2.1)]) (fun s2=>[(5020,.row 93 S93 t1),(5121,.row 5 .mb s2.2)]) rfl rfl (fun s2 o2 hF1 ih2 hr2=>?_))
   unfold F_lossy_Turn_b2 at hF1
   refine run_again (sq rfl (rg [(0,.v (.sl S93) x0),(4,vi x4),(5,.v (.int .u32) x5),(13,.row 5020),(14,vi t2.1),(16,.row 5121),(62,vi (mn 4 (wrap .i64 (((length (byI ((((getD t1 (toNat t2.1) S93.dflt).2).2).1)):Nat):Int) - x4)))),(63,vi s2.1),(64,vb (decide (s2.1 < (mn 4 (wrap .i64 (((length (byI ((((getD t1 (toNat t2.1) S93.dflt).2).2).1)):Nat):Int) - x4))))))] [(5020,.row 93 S93 t1),(5121,.row 5 .mb s2.2)] [] [] 5122 rfl (by kernel_rfl) c0 (sq rfl ?_)))
   refine run_if rfl rfl (fun h10=>?_) (fun h10=>?_)
   ·replace hF1:=ift h10 hF1
    refine sk rfl (sq rfl (bk rfl (sq rfl (rg [(0,.v (.sl S93) x0),(4,vi x4),(5,.v (.int .u32) x5),(13,.row 5020),(14,vi t2.1),(16,.row 5121),(17,vi s2.1),(62,vi (mn 4 (wrap .i64 (((length (byI ((((getD t1 (toNat t2.1) S93.dflt).2).2).1)):Nat):Int) - x4)))),(63,vi s2.1)] [(5020,.row 93 S93 t1),(5121,.row 5 .mb s2.2)] [] [] 5122 rfl (by kernel_rfl) c0 ?_))))
    obtain ⟨h11,hF1⟩:=ifg hF1
    obtain ⟨h12,hF1⟩:=ifg hF1
    obtain ⟨h13,hF1⟩:=ifg hF1
    refine rG [(0,.v (.sl S93) x0),(4,vi x4),(5,.v (.int .u32) x5),(13,.row 5020),(14,vi t2.1),(16,.row 5121),(62,vi (mn 4 (wrap .i64 (((length (byI ((((getD t1 (toNat t2.1) S93.dflt).2).2).1)):Nat):Int) - x4)))),(63,vi s2.1)] [(5020,.row 93 S93 t1),(5121,.row 5 .mb (List.set s2.2 (toNat (wrap .i64 (x4 + s2.1))) (bits .xor .u8 (getD s2.2 (toNat (wrap .i64 (x4 + s2.1))) 0) (wrap .u8 (Int.fdiv x5 (2 ^ min (toNat (wrap .i64 ((8:Int) * s2.1))) 32))))))] [] [] 5122 rfl rfl (by kernel_rfl) (cc h11 (cc (@rfl Nat (toNat (wrap .i64 (x4 + s2.1)) * 1)) (cc (oo h11 trivial) (cc h12 (cc h13 (cc (@rfl Nat (toNat (wrap .i64 (x4 + s2.1)) * 1)) (cc (oo h13 trivial) c0))))))) (eb (rg [(0,.v (.sl S93) x0),(4,vi x4),(5,.v (.int .u32) x5),(13,.row 5020),(14,vi t2.1),(16,.row 5121),(62,vi (mn 4 (wrap .i64 (((length (byI ((((getD t1 (toNat t2.1) S93.dflt).2).2).1)):Nat):Int) - x4)))),(63,vi (wrap .i64 (s2.1 + 1)))] [(5020,.row 93 S93 t1),(5121,.row 5 .mb (List.set s2.2 (toNat (wrap .i64 (x4 + s2.1))) (bits .xor .u8 (getD s2.2 (toNat (wrap .i64 (x4 + s2.1))) 0) (wrap .u8 (Int.fdiv x5 (2 ^ min (toNat (wrap .i64 ((8:Int) * s2.1))) 32))))))] [] [] 5122 rfl (by kernel_rfl) c0 ?_))
    exact ih2 _ (inj hF1).symm
   ·replace hF1:=ifn h10 hF1
    refine run_exit rfl rfl (tm (ρ':=[(0,.v (.sl S93) x0),(13,.row 5020),(14,vi t2.1),(16,.row 5121)]) (H':=[(5020,.row 93 S93 t1),(5121,.row 5 .mb s2.2)]) (by kernel_rfl) (by kernel_rfl) rfl ?_)
    exact J2_0 _ (inrI hr2 hF1).symm
 rcases Bool.eq_false_or_eq_true (!t2.2) with h14 | h14
 ·replace hF1:=ift h14 hF1
  refine rg [(0,.v (.sl S93) x0),(4,vi x4),(5,.v (.int .u32) x5),(13,.row 5020),(14,vi t2.1),(50,vb true)] [(5020,.row 93 S93 t1)] [] [(2,true)] 5021 rfl (by kernel_rfl) (cc h14 c0) ?_
  exact J1_0 _ (inj hF1).symm
 ·replace hF1:=ifn h14 hF1
  rcases Bool.eq_false_or_eq_true (decide (x4 < 0)) with h15 | h15
  ·replace hF1:=ift h15 hF1
   refine rg [(0,.v (.sl S93) x0),(4,vi x4),(5,.v (.int .u32) x5),(13,.row 5020),(14,vi t2.1),(50,vb true)] [(5020,.row 93 S93 t1)] [] [(2,false),(6,true)] 5021 rfl (by kernel_rfl) (cc h14 (cc h15 c0)) ?_
   exact J1_0 _ (inj hF1).symm
  ·replace hF1:=ifn h15 hF1
   obtain ⟨h16,hF1⟩:=ifg hF1
   rcases Bool.eq_false_or_eq_true (decide (x4≥((length ((((getD x0 (toNat t2.1) S93.dflt).2).2).1):Nat):Int))) with h17 | h17
   ·replace hF1:=ift h17 hF1
    refine rg [(0,.v (.sl S93) x0),(4,vi x4),(5,.v (.int .u32) x5),(13,.row 5020),(14,vi t2.1),(50,vb true)] [(5020,.row 93 S93 t1)] [] [(2,false),(6,false),(16,true)] 5021 rfl (by kernel_rfl) (cc h14 (cc h15 (cc h16 (cc h17 c0)))) ?_
    exact J1_0 _ (inj hF1).symm
   ·replace hF1:=ifn h17 hF1
    obtain ⟨h18,hF1⟩:=ifg hF1
    refine rg [(0,.v (.sl S93) x0),(4,vi x4),(5,.v (.int .u32) x5),(13,.row 5020),(14,vi t2.1),(50,vb ((((getD x0 (toNat t2.1) S93.dflt).2).2).2))] [(5020,.row 93 S93 t1)] [] [(2,false),(6,false),(16,false)] 5021 rfl (by kernel_rfl) (cc h14 (cc h15 (cc h16 (cc h17 (cc h18 c0))))) ?_
    exact J1_0 _ (inj hF1).symm
abbrev S29:Sh:=(.st (.prod (.int .i64) (.prod (.sl S78) (.prod (.sl .bool) (.sl S93)))))
abbrev Z29:Sh:=(.st (.prod (.int .i64) (.prod (.nl S78) (.prod (.nl .bool) (.nl S93)))))
noncomputable def F_cluster_Begin_b2 (x0:Int) (x1:Int) (s2:(Int × (List S78.ty) × (List Bool))):Option ((Int × (List S78.ty) × (List Bool)) ⊕ ((S29.ty × Bool) ⊕ ((List S78.ty) × (List Bool)))) :=
 if (decide (s2.1 < x0))=true then (F_core_Start s2.1 1 x1).bind fun t1=>(if (!t1.2)=true then some (Sum.inr (Sum.inl ((0,([],([],[]))),false))) else if apOk (length s2.2.1 + 1) 792 then (if apOk (length s2.2.2 + 1) 1 then (some (Sum.inl (wrap .i64 (s2.1 + 1),s2.2.1++[t1.1],s2.2.2++[true]))) else none) else none) else some (Sum.inr (Sum.inr (s2.2.1,s2.2.2)))
noncomputable def F_cluster_Begin (x0:Int) (x1:Int):Option (S29.ty × Bool) :=
 (show Option Bool from if (decide (x0 < 1))=true then some true else some (decide (x0 > 8))).bind (fun r1=>if (r1)=true then some ((0,([],([],[]))),false) else (loopO (F_cluster_Begin_b2 x0 x1) (0,[],[])).bind (Sum.elim some (fun j21=>some ((x1,(j21.1,(j21.2,[]))),true))))
theorem W_cluster_Begin {x0:Int} {x1:Int} {y:(S29.ty × Bool)} (hF0:F_cluster_Begin x0 x1=some y):Pure Tryz.prog 17 [vi x0,vi x1] (.tup [.v S29 y.1,vb y.2]):=by
 unfold F_cluster_Begin at hF0
 refine pure_of_run @Tryz.call17 @Tryz.func17 rfl rfl fun w M ho=>?_
 refine sq rfl (rg [(0,vi x0),(1,vi x1),(4,.ptr 5000 [] 0)] [(5000,.var 29 Z29 (0,((),((),()))))] [] [] 5000 rfl (by kernel_rfl) c0 (run_nilF (H':=[(1000,.row 78 S78 []),(5000,.var 29 (.st (.prod (.int .i64) (.prod .ref (.prod (.nl .bool) (.nl S93))))) (0,(1000,((),()))))]) 5000 1000 [.u,.r,.l] 78 S78 rfl rfl rfl rfl rfl rfl (by kernel_rfl) rfl (run_nilF (H':=[(1001,.row 4 .bool []),(1000,.row 78 S78 []),(5000,.var 29 (.st (.prod (.int .i64) (.prod .ref (.prod .ref (.nl S93))))) (0,(1000,(1001,()))))]) 5000 1001 [.u,.r,.r,.l] 4 .bool rfl rfl rfl rfl rfl rfl (by kernel_rfl) rfl (sq rfl (sq rfl ?_)))))
 obtain ⟨r1,hF1,hF0⟩:=obd hF0
 refine run_cut (fun r1'=>r1=r1') (fun r1=>[(0,vi x0),(1,vi x1),(4,.ptr 5000 [] 0),(15,vb r1)]) (fun r1=>[(1000,.row 78 S78 []),(1001,.row 4 .bool []),(5000,.var 29 (.st (.prod (.int .i64) (.prod .ref (.prod .ref (.nl S93))))) (0,(1000,(1001,()))))]) (fun r1' h1=>?_) (fun J1_0=>?_)
 ·subst h1
  refine run_if rfl rfl (fun h2=>?_) (fun h2=>?_)
  ·replace hF0:=ift h2 hF0
   refine sq rfl (rg [(4,.ptr 5000 [] 0),(5,vb false)] [(5000,.var 29 Z29 (0,((),((),()))))] [] [] 5001 rfl (by kernel_rfl) c0 (run_nilF (H':=[(1000,.row 78 S78 []),(5000,.var 29 (.st (.prod (.int .i64) (.prod .ref (.prod (.nl .bool) (.nl S93))))) (0,(1000,((),()))))]) 5000 1000 [.u,.r,.l] 78 S78 rfl rfl rfl rfl rfl rfl (by kernel_rfl) rfl (run_nilF (H':=[(1001,.row 4 .bool []),(1000,.row 78 S78 []),(5000,.var 29 (.st (.prod (.int .i64) (.prod .ref (.prod .ref (.nl S93))))) (0,(1000,(1001,()))))]) 5000 1001 [.u,.r,.r,.l] 4 .bool rfl rfl rfl rfl rfl rfl (by kernel_rfl) rfl ?_)))
   obtain rfl:=inj hF0
   refine tm (ρ':=[(4,.ptr 5000 [] 0),(5,vb false)]) (H':=[(1000,.row 78 S78 []),(1001,.row 4 .bool []),(5000,.var 29 (.st (.prod (.int .i64) (.prod .ref (.prod .ref (.nl S93))))) (0,(1000,(1001,()))))]) (by kernel_rfl) (by kernel_rfl) rfl (run_frzC (ρ':=[(4,.ptr 5000 [] 0),(5,vb false)]) (H':=[(1001,.row 4 .bool []),(5000,.var 29 (.st (.prod (.int .i64) (.prod (.sl S78) (.prod .ref (.nl S93))))) (0,([],(1001,()))))]) 1000 rfl rfl rfl (by kernel_rfl) (by kernel_rfl) (run_frzC (ρ':=[(4,.ptr 5000 [] 0),(5,vb false)]) (H':=[(5000,.var 29 (.st (.prod (.int .i64) (.prod (.sl S78) (.prod (.sl .bool) (.nl S93))))) (0,([],([],()))))]) 1001 rfl rfl rfl (by kernel_rfl) (by kernel_rfl) ?_))
   exact ret_pure (q:=[.v S29 (0,([],([],[]))),vb false]) [S29,.bool] rfl rfl (by kernel_rfl)
  ·replace hF0:=ifn h2 hF0
   refine sk rfl (sq rfl (rg [(0,vi x0),(1,vi x1),(4,.ptr 5000 [] 0),(6,.ptr 5041 [] 0)] [(1000,.row 78 S78 []),(1001,.row 4 .bool []),(5000,.var 29 (.st (.prod (.int .i64) (.prod .ref (.prod .ref (.nl S93))))) (0,(1000,(1001,())))),(5041,.var 29 Z29 (x1,((),((),()))))] [] [] 5001 rfl (by kernel_rfl) c0 (run_nilF (H':=[(1064,.row 78 S78 []),(1000,.row 78 S78 []),(1001,.row 4 .bool []),(5000,.var 29 (.st (.prod (.int .i64) (.prod .ref (.prod .ref (.nl S93))))) (0,(1000,(1001,())))),(5041,.var 29 (.st (.prod (.int .i64) (.prod .ref (.prod (.nl .bool) (.nl S93))))) (x1,(1064,((),()))))]) 5041 1064 [.u,.r,.l] 78 S78 rfl rfl rfl rfl rfl rfl (by kernel_rfl) rfl (run_nilF (H':=[(1065,.row 4 .bool []),(1064,.row 78 S78 []),(1000,.row 78 S78 []),(1001,.row 4 .bool []),(5000,.var 29 (.st (.prod (.int .i64) (.prod .ref (.prod .ref (.nl S93))))) (0,(1000,(1001,())))),(5041,.var 29 (.st (.prod (.int .i64) (.prod .ref (.prod .ref (.nl S93))))) (x1,(1064,(1065,()))))]) 5041 1065 [.u,.r,.r,.l] 4 .bool rfl rfl rfl rfl rfl rfl (by kernel_rfl) rfl (sq rfl (sq rfl (rg [(1,vi x1),(4,.ptr 5000 [] 0),(6,.ptr 5041 [] 0),(19,vi x0),(20,vi 0)] [(1000,.row 78 S78 []),(1001,.row 4 .bool []),(1064,.row 78 S78 []),(1065,.row 4 .bool []),(5000,.var 29 (.st (.prod (.int .i64) (.prod .ref (.prod .ref (.nl S93))))) (0,(1000,(1001,())))),(5041,.var 29 (.st (.prod (.int .i64) (.prod .ref (.prod .ref (.nl S93))))) (x1,(1064,(1065,()))))] [] [] 5042 rfl (by kernel_rfl) c0 (bk rfl ?_))))))))
   obtain ⟨r2,hl2,hF0⟩:=obd hF0
   refine run_cutx 0 rfl (fun j21=>r2=Sum.inr j21) (fun j21=>[(4,.ptr 5000 [] 0),(6,.ptr 5041 [] 0)]) (fun j21=>[(1000,.row 78 S78 []),(1001,.row 4 .bool []),(1064,.row 78 S78 j21.1),(1065,.row 4 .bool j21.2),(5000,.var 29 (.st (.prod (.int .i64) (.prod .ref (.prod .ref (.nl S93))))) (0,(1000,(1001,())))),(5041,.var 29 (.st (.prod (.int .i64) (.prod .ref (.prod .ref (.nl S93))))) (x1,(1064,(1065,()))))]) (fun j21 h3=>?_) (fun J2_1=>?_)
   ·subst h3
    replace hF0:=sumR hF0
    refine sq rfl (rg [(4,.ptr 5000 [] 0),(5,vb true)] [(1064,.row 78 S78 j21.1),(1065,.row 4 .bool j21.2),(5000,.var 29 (.st (.prod (.int .i64) (.prod .ref (.prod .ref (.nl S93))))) (x1,(1064,(1065,()))))] [] [] 5042 rfl (by kernel_rfl) c0 (run_renF (ρ':=[(4,.ptr 5000 [] 0),(5,vb true)]) (H':=[(1000,.row 78 S78 j21.1),(1065,.row 4 .bool j21.2),(5000,.var 29 (.st (.prod (.int .i64) (.prod .ref (.prod .ref (.nl S93))))) (x1,(1000,(1065,()))))]) 1064 1000 rfl (by kernel_rfl) rfl rfl (by kernel_rfl) rfl (run_renF (ρ':=[(4,.ptr 5000 [] 0),(5,vb true)]) (H':=[(1001,.row 4 .bool j21.2),(1000,.row 78 S78 j21.1),(5000,.var 29 (.st (.prod (.int .i64) (.prod .ref (.prod .ref (.nl S93))))) (x1,(1000,(1001,()))))]) 1065 1001 rfl (by kernel_rfl) rfl rfl (by kernel_rfl) rfl ?_)))
    obtain rfl:=inj hF0
    refine tm (ρ':=[(4,.ptr 5000 [] 0),(5,vb true)]) (H':=[(1000,.row 78 S78 j21.1),(1001,.row 4 .bool j21.2),(5000,.var 29 (.st (.prod (.int .i64) (.prod .ref (.prod .ref (.nl S93))))) (x1,(1000,(1001,()))))]) (by kernel_rfl) (by kernel_rfl) rfl (run_frzC (ρ':=[(4,.ptr 5000 [] 0),(5,vb true)]) (H':=[(1001,.row 4 .bool j21.2),(5000,.var 29 (.st (.prod (.int .i64) (.prod (.sl S78) (.prod .ref (.nl S93))))) (x1,(j21.1,(1001,()))))]) 1000 rfl rfl rfl (by kernel_rfl) (by kernel_rfl) (run_frzC (ρ':=[(4,.ptr 5000 [] 0),(5,vb true)]) (H':=[(5000,.var 29 (.st (.prod (.int .i64) (.prod (.sl S78) (.prod (.sl .bool) (.nl S93))))) (x1,(j21.1,(j21.2,()))))]) 1001 rfl rfl rfl (by kernel_rfl) (by kernel_rfl) ?_))
    exact ret_pure (q:=[.v S29 (x1,(j21.1,(j21.2,[]))),vb true]) [S29,.bool] rfl rfl (by kernel_rfl)
   refine run_loop rfl (run_loopO hl2 (fun s2=>[(1,vi x1),(4,.ptr 5000 [] 0),(6,.ptr 5041 [] 0),(19,vi x0),(20,vi s2.1)]) (fun s2=>[(1000,.row 78 S78 []),(1001,.row 4 .bool []),(1064,.row 78 S78 s2.2.1),(1065,.row 4 .bool s2.2.2),(5000,.var 29 (.st (.prod (.int .i64) (.prod .ref (.prod .ref (.nl S93))))) (0,(1000,(1001,())))),(5041,.var 29 (.st (.prod (.int .i64) (.prod .ref (.prod .ref (.nl S93))))) (x1,(1064,(1065,()))))]) rfl rfl (fun s2 o2 hF1 ih2 hr2=>?_))
   unfold F_cluster_Begin_b2 at hF1
   refine run_again (sq rfl (rg [(1,vi x1),(4,.ptr 5000 [] 0),(6,.ptr 5041 [] 0),(19,vi x0),(20,vi s2.1),(21,vb (decide (s2.1 < x0)))] [(1000,.row 78 S78 []),(1001,.row 4 .bool []),(1064,.row 78 S78 s2.2.1),(1065,.row 4 .bool s2.2.2),(5000,.var 29 (.st (.prod (.int .i64) (.prod .ref (.prod .ref (.nl S93))))) (0,(1000,(1001,())))),(5041,.var 29 (.st (.prod (.int .i64) (.prod .ref (.prod .ref (.nl S93))))) (x1,(1064,(1065,()))))] [] [] 5042 rfl (by kernel_rfl) c0 (sq rfl ?_)))
   refine run_if rfl rfl (fun h4=>?_) (fun h4=>?_)
   ·replace hF1:=ift h4 hF1
    refine sk rfl (sq rfl (bk rfl (sq rfl (rg [(1,vi x1),(4,.ptr 5000 [] 0),(6,.ptr 5041 [] 0),(7,vi s2.1),(19,vi x0),(20,vi s2.1)] [(1000,.row 78 S78 []),(1001,.row 4 .bool []),(1064,.row 78 S78 s2.2.1),(1065,.row 4 .bool s2.2.2),(5000,.var 29 (.st (.prod (.int .i64) (.prod .ref (.prod .ref (.nl S93))))) (0,(1000,(1001,())))),(5041,.var 29 (.st (.prod (.int .i64) (.prod .ref (.prod .ref (.nl S93))))) (x1,(1064,(1065,()))))] [] [] 5042 rfl (by kernel_rfl) c0 (sq rfl ?_)))))
    obtain ⟨t1,h5,hF1⟩:=obd hF1
    refine rg [(1,vi x1),(4,.ptr 5000 [] 0),(6,.ptr 5041 [] 0),(8,.ptr 5162 [] 0),(9,vb t1.2),(19,vi x0),(20,vi s2.1)] [(1000,.row 78 S78 []),(1001,.row 4 .bool []),(1064,.row 78 S78 s2.2.1),(1065,.row 4 .bool s2.2.2),(5000,.var 29 (.st (.prod (.int .i64) (.prod .ref (.prod .ref (.nl S93))))) (0,(1000,(1001,())))),(5041,.var 29 (.st (.prod (.int .i64) (.prod .ref (.prod .ref (.nl S93))))) (x1,(1064,(1065,())))),(5162,.var 78 S78 t1.1)] [(2,⟨[.v (.int .i64),.v (.int .u32),.v (.int .i64)],.tup [.v S78 t1.1,vb t1.2],none⟩)] [] 5042 rfl (by kernel_rfl) (cc (W_core_Start h5) c0) (sq rfl (sq rfl (rg [(1,vi x1),(4,.ptr 5000 [] 0),(6,.ptr 5041 [] 0),(8,.ptr 5162 [] 0),(19,vi x0),(20,vi s2.1),(30,vb (!t1.2))] [(1000,.row 78 S78 []),(1001,.row 4 .bool []),(1064,.row 78 S78 s2.2.1),(1065,.row 4 .bool s2.2.2),(5000,.var 29 (.st (.prod (.int .i64) (.prod .ref (.prod .ref (.nl S93))))) (0,(1000,(1001,())))),(5041,.var 29 (.st (.prod (.int .i64) (.prod .ref (.prod .ref (.nl S93))))) (x1,(1064,(1065,())))),(5162,.var 78 S78 t1.1)] [] [] 5163 rfl (by kernel_rfl) c0 ?_)))
    refine run_if rfl rfl (fun h6=>?_) (fun h6=>?_)
    ·replace hF1:=ift h6 hF1
     refine sq rfl (rg [(4,.ptr 5000 [] 0),(5,vb false)] [(5000,.var 29 Z29 (0,((),((),()))))] [] [] 5163 rfl (by kernel_rfl) c0 (run_nilF (H':=[(1000,.row 78 S78 []),(5000,.var 29 (.st (.prod (.int .i64) (.prod .ref (.prod (.nl .bool) (.nl S93))))) (0,(1000,((),()))))]) 5000 1000 [.u,.r,.l] 78 S78 rfl rfl rfl rfl rfl rfl (by kernel_rfl) rfl (run_nilF (H':=[(1001,.row 4 .bool []),(1000,.row 78 S78 []),(5000,.var 29 (.st (.prod (.int .i64) (.prod .ref (.prod .ref (.nl S93))))) (0,(1000,(1001,()))))]) 5000 1001 [.u,.r,.r,.l] 4 .bool rfl rfl rfl rfl rfl rfl (by kernel_rfl) rfl ?_)))
     have e2:=inrI hr2 hF1
     subst e2
     replace hF0:=sumL hF0
     obtain rfl:=inj hF0
     refine tm (ρ':=[(4,.ptr 5000 [] 0),(5,vb false)]) (H':=[(1000,.row 78 S78 []),(1001,.row 4 .bool []),(5000,.var 29 (.st (.prod (.int .i64) (.prod .ref (.prod .ref (.nl S93))))) (0,(1000,(1001,()))))]) (by kernel_rfl) (by kernel_rfl) rfl (run_frzC (ρ':=[(4,.ptr 5000 [] 0),(5,vb false)]) (H':=[(1001,.row 4 .bool []),(5000,.var 29 (.st (.prod (.int .i64) (.prod (.sl S78) (.prod .ref (.nl S93))))) (0,([],(1001,()))))]) 1000 rfl rfl rfl (by kernel_rfl) (by kernel_rfl) (run_frzC (ρ':=[(4,.ptr 5000 [] 0),(5,vb false)]) (H':=[(5000,.var 29 (.st (.prod (.int .i64) (.prod (.sl S78) (.prod (.sl .bool) (.nl S93))))) (0,([],([],()))))]) 1001 rfl rfl rfl (by kernel_rfl) (by kernel_rfl) ?_))
     exact ret_pure (q:=[.v S29 (0,([],([],[]))),vb false]) [S29,.bool] rfl rfl (by kernel_rfl)
    ·replace hF1:=ifn h6 hF1
     refine sk rfl (sq rfl ?_)
     obtain ⟨h7,hF1⟩:=ifg hF1
     refine rg [(1,vi x1),(4,.ptr 5000 [] 0),(6,.ptr 5041 [] 0),(19,vi x0),(20,vi s2.1)] [(1000,.row 78 S78 []),(1001,.row 4 .bool []),(1065,.row 4 .bool s2.2.2),(5000,.var 29 (.st (.prod (.int .i64) (.prod .ref (.prod .ref (.nl S93))))) (0,(1000,(1001,())))),(5041,.var 29 (.st (.prod (.int .i64) (.prod .ref (.prod .ref (.nl S93))))) (x1,(5243,(1065,())))),(5243,.row 78 S78 (s2.2.1++[t1.1]))] [] [] 5163 rfl (by kernel_rfl) (cc h7.1 (cc h7.2 c0)) (run_renF (ρ':=[(1,vi x1),(4,.ptr 5000 [] 0),(6,.ptr 5041 [] 0),(19,vi x0),(20,vi s2.1)]) (H':=[(1064,.row 78 S78 (s2.2.1++[t1.1])),(1000,.row 78 S78 []),(1001,.row 4 .bool []),(1065,.row 4 .bool s2.2.2),(5000,.var 29 (.st (.prod (.int .i64) (.prod .ref (.prod .ref (.nl S93))))) (0,(1000,(1001,())))),(5041,.var 29 (.st (.prod (.int .i64) (.prod .ref (.prod .ref (.nl S93))))) (x1,(1064,(1065,()))))]) 5243 1064 rfl (by kernel_rfl) rfl rfl (by kernel_rfl) rfl ?_)
     obtain ⟨h8,hF1⟩:=ifg hF1
     refine rg [(1,vi x1),(4,.ptr 5000 [] 0),(6,.ptr 5041 [] 0),(19,vi x0),(20,vi s2.1)] [(1000,.row 78 S78 []),(1001,.row 4 .bool []),(1064,.row 78 S78 (s2.2.1++[t1.1])),(5000,.var 29 (.st (.prod (.int .i64) (.prod .ref (.prod .ref (.nl S93))))) (0,(1000,(1001,())))),(5041,.var 29 (.st (.prod (.int .i64) (.prod .ref (.prod .ref (.nl S93))))) (x1,(1064,(5102,())))),(5102,.row 4 .bool (s2.2.2++[true]))] [] [] 5042 rfl (by kernel_rfl) (cc h8.1 (cc h8.2 c0)) (run_renF (ρ':=[(1,vi x1),(4,.ptr 5000 [] 0),(6,.ptr 5041 [] 0),(19,vi x0),(20,vi s2.1)]) (H':=[(1065,.row 4 .bool (s2.2.2++[true])),(1000,.row 78 S78 []),(1001,.row 4 .bool []),(1064,.row 78 S78 (s2.2.1++[t1.1])),(5000,.var 29 (.st (.prod (.int .i64) (.prod .ref (.prod .ref (.nl S93))))) (0,(1000,(1001,())))),(5041,.var 29 (.st (.prod (.int .i64) (.prod .ref (.prod .ref (.nl S93))))) (x1,(1064,(1065,()))))]) 5102 1065 rfl (by kernel_rfl) rfl rfl (by kernel_rfl) rfl (eb (rg [(1,vi x1),(4,.ptr 5000 [] 0),(6,.ptr 5041 [] 0),(19,vi x0),(20,vi (wrap .i64 (s2.1 + 1)))] [(1000,.row 78 S78 []),(1001,.row 4 .bool []),(1064,.row 78 S78 (s2.2.1++[t1.1])),(1065,.row 4 .bool (s2.2.2++[true])),(5000,.var 29 (.st (.prod (.int .i64) (.prod .ref (.prod .ref (.nl S93))))) (0,(1000,(1001,())))),(5041,.var 29 (.st (.prod (.int .i64) (.prod .ref (.prod .ref (.nl S93))))) (x1,(1064,(1065,()))))] [] [] 5042 rfl (by kernel_rfl) c0 ?_)))
     exact ih2 _ (inj hF1).symm
   ·replace hF1:=ifn h4 hF1
    refine run_exit rfl rfl (tm (ρ':=[(4,.ptr 5000 [] 0),(6,.ptr 5041 [] 0)]) (H':=[(1000,.row 78 S78 []),(1001,.row 4 .bool []),(1064,.row 78 S78 s2.2.1),(1065,.row 4 .bool s2.2.2),(5000,.var 29 (.st (.prod (.int .i64) (.prod .ref (.prod .ref (.nl S93))))) (0,(1000,(1001,())))),(5041,.var 29 (.st (.prod (.int .i64) (.prod .ref (.prod .ref (.nl S93))))) (x1,(1064,(1065,()))))]) (by kernel_rfl) (by kernel_rfl) rfl ?_)
    exact J2_1 _ (inrI hr2 hF1).symm
 rcases Bool.eq_false_or_eq_true (decide (x0 < 1)) with h9 | h9
 ·replace hF1:=ift h9 hF1
  refine rg [(0,vi x0),(1,vi x1),(4,.ptr 5000 [] 0),(15,vb true)] [(1000,.row 78 S78 []),(1001,.row 4 .bool []),(5000,.var 29 (.st (.prod (.int .i64) (.prod .ref (.prod .ref (.nl S93))))) (0,(1000,(1001,()))))] [] [(2,true)] 5001 rfl (by kernel_rfl) (cc h9 c0) ?_
  exact J1_0 _ (inj hF1).symm
 ·replace hF1:=ifn h9 hF1
  refine rg [(0,vi x0),(1,vi x1),(4,.ptr 5000 [] 0),(15,vb (decide (x0 > 8)))] [(1000,.row 78 S78 []),(1001,.row 4 .bool []),(5000,.var 29 (.st (.prod (.int .i64) (.prod .ref (.prod .ref (.nl S93))))) (0,(1000,(1001,()))))] [] [(2,false)] 5001 rfl (by kernel_rfl) (cc h9 c0) ?_
  exact J1_0 _ (inj hF1).symm
abbrev S50:Sh:=(.st (.prod (.int .i64) (.prod (.int .u32) (.prod S36 S48))))
abbrev S98:Sh:=(.st (.prod S29 (.sl S50)))
noncomputable def F_cluster_run_has (x0:S98.ty) (x1:Int):Option Bool :=
 (show Option Bool from if (decide (x1≥0))=true then if (decide (x1 < ((length x0.1.2.1:Nat):Int)))=true then if (decide (x1 < ((length x0.1.2.2.1:Nat):Int)))=true then if 0≤x1∧x1 < ((length x0.1.2.2.1:Nat):Int) then (some (getD x0.1.2.2.1 (toNat x1) false)) else none else some false else some false else some false).bind (fun r1=>some r1)
theorem W_cluster_run_has {x0:S98.ty} {x1:Int} {y:Bool} (hF0:F_cluster_run_has x0 x1=some y):Pure Tryz.prog 53 [.fp S98 x0,vi x1] (vb y):=by
 unfold F_cluster_run_has at hF0
 refine pure_of_run @Tryz.call53 @Tryz.func53 rfl rfl fun w M ho=>?_
 refine sq rfl (rg [(0,.fp S98 x0),(1,vi x1)] [] [] [] 5000 rfl (by kernel_rfl) c0 (sq rfl ?_))
 obtain ⟨r1,hF1,hF0⟩:=obd hF0
 refine run_cut (fun r1'=>r1=r1') (fun r1=>[(4,vb r1)]) (fun r1=>[]) (fun r1' h1=>?_) (fun J1_0=>?_)
 ·subst h1
  obtain rfl:=inj hF0
  exact ret_pure (q:=[vb r1]) [.bool] rfl rfl (by kernel_rfl)
 rcases Bool.eq_false_or_eq_true (decide (x1≥0)) with h2 | h2
 ·replace hF1:=ift h2 hF1
  rcases Bool.eq_false_or_eq_true (decide (x1 < ((length x0.1.2.1:Nat):Int))) with h3 | h3
  ·replace hF1:=ift h3 hF1
   rcases Bool.eq_false_or_eq_true (decide (x1 < ((length x0.1.2.2.1:Nat):Int))) with h4 | h4
   ·replace hF1:=ift h4 hF1
    obtain ⟨h5,hF1⟩:=ifg hF1
    refine rg [(4,vb (getD x0.1.2.2.1 (toNat x1) false))] [] [] [(2,true),(12,true),(22,true)] 5000 rfl (by kernel_rfl) (cc h2 (cc h3 (cc h4 (cc h5 c0)))) ?_
    exact J1_0 _ (inj hF1).symm
   ·replace hF1:=ifn h4 hF1
    refine rg [(4,vb false)] [] [] [(2,true),(12,true),(22,false)] 5000 rfl (by kernel_rfl) (cc h2 (cc h3 (cc h4 c0))) ?_
    exact J1_0 _ (inj hF1).symm
  ·replace hF1:=ifn h3 hF1
   refine rg [(4,vb false)] [] [] [(2,true),(12,false)] 5000 rfl (by kernel_rfl) (cc h2 (cc h3 c0)) ?_
   exact J1_0 _ (inj hF1).symm
 ·replace hF1:=ifn h2 hF1
  refine rg [(4,vb false)] [] [] [(2,false)] 5000 rfl (by kernel_rfl) (cc h2 c0) ?_
  exact J1_0 _ (inj hF1).symm
abbrev O29:Sh:=(.st (.prod (.int .i64) (.prod .ref (.prod .ref (.sl S93)))))
abbrev O98:Sh:=(.st (.prod O29 .ref))
noncomputable def F_cluster_run_tell_b1 (x0:S98.ty) (x1:Int) (x3:(List S48.ty)) (s1:(Int × S36.ty × (List S50.ty))):Option ((Int × S36.ty × (List S50.ty)) ⊕ (List S50.ty)) :=
 if (decide (s1.1 < ((length x3:Nat):Int)))=true then if 0≤s1.1∧s1.1 < ((length x3:Nat):Int) then (if 0≤x1∧x1 < ((length x0.1.2.1:Nat):Int) then (if apOk (length s1.2.2 + 1) 432 then (if ((getD x3 (toNat s1.1) S48.dflt).1)=true then some (Sum.inl (wrap .i64 (s1.1 + 1),(((getD x3 (toNat s1.1) S48.dflt).2).2).1,s1.2.2++[(x1,((((getD x0.1.2.1 (toNat x1) S78.dflt).2).2).1,(s1.2.1,getD x3 (toNat s1.1) S48.dflt)))])) else some (Sum.inl (wrap .i64 (s1.1 + 1),s1.2.1,s1.2.2++[(x1,((((getD x0.1.2.1 (toNat x1) S78.dflt).2).2).1,(s1.2.1,getD x3 (toNat s1.1) S48.dflt)))]))) else none) else none) else none else some (Sum.inr s1.2.2)
noncomputable def F_cluster_run_tell (x0:S98.ty) (x1:Int) (x2:S36.ty) (x3:(List S48.ty)):Option S98.ty :=
 (loopO (F_cluster_run_tell_b1 x0 x1 x3) (0,x2,x0.2)).bind (fun r1=>some (x0.1,r1))
theorem W_cluster_run_tell {x0:S98.ty} {x1:Int} {x2:S36.ty} {x3:(List S48.ty)} {y:S98.ty} (hF0:F_cluster_run_tell x0 x1 x2 x3=some y):Mut Tryz.prog 87 4 [.ptr 0 [] 0,vi x1,.v S36 x2,.v (.sl S48) x3] [(0,.var 98 O98 ((x0.1.1,(1,(2,x0.1.2.2.2))),3)),(1,.row 78 S78 x0.1.2.1),(2,.row 4 .bool x0.1.2.2.1),(3,.row 50 S50 x0.2)] (.tup []) [(0,.var 98 O98 ((y.1.1,(1000,(1001,y.1.2.2.2))),1002)),(1000,.row 78 S78 y.1.2.1),(1001,.row 4 .bool y.1.2.2.1),(1002,.row 50 S50 y.2)]:=by
 unfold F_cluster_run_tell at hF0
 refine mut_of_run @Tryz.call87 @Tryz.func87 rfl rfl fun b=>?_
 refine run_renF (ρ':=[(0,.ptr 0 [] 0),(1,vi x1),(2,.v S36 x2),(3,.v (.sl S48) x3)]) (H':=[(1000,.row 78 S78 x0.1.2.1),(0,.var 98 O98 ((x0.1.1,(1000,(2,x0.1.2.2.2))),3)),(2,.row 4 .bool x0.1.2.2.1),(3,.row 50 S50 x0.2)]) 1 1000 rfl (by kernel_rfl) rfl rfl (by kernel_rfl) rfl (run_renF (ρ':=[(0,.ptr 0 [] 0),(1,vi x1),(2,.v S36 x2),(3,.v (.sl S48) x3)]) (H':=[(1001,.row 4 .bool x0.1.2.2.1),(1000,.row 78 S78 x0.1.2.1),(0,.var 98 O98 ((x0.1.1,(1000,(1001,x0.1.2.2.2))),3)),(3,.row 50 S50 x0.2)]) 2 1001 rfl (by kernel_rfl) rfl rfl (by kernel_rfl) rfl (run_renF (ρ':=[(0,.ptr 0 [] 0),(1,vi x1),(2,.v S36 x2),(3,.v (.sl S48) x3)]) (H':=[(1002,.row 50 S50 x0.2),(1001,.row 4 .bool x0.1.2.2.1),(1000,.row 78 S78 x0.1.2.1),(0,.var 98 O98 ((x0.1.1,(1000,(1001,x0.1.2.2.2))),1002))]) 3 1002 rfl (by kernel_rfl) rfl rfl (by kernel_rfl) rfl (sq rfl (rg [(0,.ptr 0 [] 0),(1,vi x1),(3,.v (.sl S48) x3),(6,.ptr 5000 [] 0)] [(0,.var 98 O98 ((x0.1.1,(1000,(1001,x0.1.2.2.2))),1002)),(1000,.row 78 S78 x0.1.2.1),(1001,.row 4 .bool x0.1.2.2.1),(1002,.row 50 S50 x0.2),(5000,.var 36 S36 x2)] [] [] 5000 rfl (by kernel_rfl) c0 (sq rfl (rg [(0,.ptr 0 [] 0),(1,vi x1),(6,.ptr 5000 [] 0),(10,.v (.sl S48) x3),(11,vi ((length x3:Nat):Int)),(12,vi 0)] [(0,.var 98 O98 ((x0.1.1,(1000,(1001,x0.1.2.2.2))),1002)),(1000,.row 78 S78 x0.1.2.1),(1001,.row 4 .bool x0.1.2.2.1),(1002,.row 50 S50 x0.2),(5000,.var 36 S36 x2)] [] [] 5001 rfl (by kernel_rfl) c0 (bk rfl ?_)))))))
 obtain ⟨r1,hl1,hF0⟩:=obd hF0
 refine run_cutx 0 rfl (fun r1'=>r1=r1') (fun r1=>[]) (fun r1=>[(0,.var 98 O98 ((x0.1.1,(1000,(1001,x0.1.2.2.2))),1002)),(1000,.row 78 S78 x0.1.2.1),(1001,.row 4 .bool x0.1.2.2.1),(1002,.row 50 S50 r1)]) (fun r1' h1=>?_) (fun J1_0=>?_)
 ·subst h1
  obtain rfl:=inj hF0
  exact fall_mut (q:=[]) [] [0,1000,1001,1002] rfl (by kernel_rfl) rfl (by kernel_rfl)
 refine run_loop rfl (run_loopO hl1 (fun s1=>[(0,.ptr 0 [] 0),(1,vi x1),(6,.ptr 5000 [] 0),(10,.v (.sl S48) x3),(11,vi ((length x3:Nat):Int)),(12,vi s1.1)]) (fun s1=>[(0,.var 98 O98 ((x0.1.1,(1000,(1001,x0.1.2.2.2))),1002)),(1000,.row 78 S78 x0.1.2.1),(1001,.row 4 .bool x0.1.2.2.1),(1002,.row 50 S50 s1.2.2),(5000,.var 36 S36 s1.2.1)]) rfl rfl (fun s1 o1 hF1 ih1 hr1=>?_))
 unfold F_cluster_run_tell_b1 at hF1
 refine run_again (sq rfl (rg [(0,.ptr 0 [] 0),(1,vi x1),(6,.ptr 5000 [] 0),(10,.v (.sl S48) x3),(11,vi ((length x3:Nat):Int)),(12,vi s1.1),(13,vb (decide (s1.1 < ((length x3:Nat):Int))))] [(0,.var 98 O98 ((x0.1.1,(1000,(1001,x0.1.2.2.2))),1002)),(1000,.row 78 S78 x0.1.2.1),(1001,.row 4 .bool x0.1.2.2.1),(1002,.row 50 S50 s1.2.2),(5000,.var 36 S36 s1.2.1)] [] [] 5001 rfl (by kernel_rfl) c0 (sq rfl ?_)))
 refine run_if rfl rfl (fun h2=>?_) (fun h2=>?_)
 ·replace hF1:=ift h2 hF1
  refine sk rfl (sq rfl (bk rfl (sq rfl ?_)))
  obtain ⟨h3,hF1⟩:=ifg hF1
  refine rg [(0,.ptr 0 [] 0),(1,vi x1),(6,.ptr 5000 [] 0),(9,.ptr 5041 [] 0),(10,.v (.sl S48) x3),(11,vi ((length x3:Nat):Int)),(12,vi s1.1)] [(0,.var 98 O98 ((x0.1.1,(1000,(1001,x0.1.2.2.2))),1002)),(1000,.row 78 S78 x0.1.2.1),(1001,.row 4 .bool x0.1.2.2.1),(1002,.row 50 S50 s1.2.2),(5000,.var 36 S36 s1.2.1),(5041,.var 48 S48 (getD x3 (toNat s1.1) S48.dflt))] [] [] 5001 rfl (by kernel_rfl) (cc h3 c0) (sq rfl ?_)
  obtain ⟨h4,hF1⟩:=ifg hF1
  obtain ⟨h5,hF1⟩:=ifg hF1
  refine rG [(0,.ptr 0 [] 0),(1,vi x1),(6,.ptr 5000 [] 0),(9,.ptr 5041 [] 0),(10,.v (.sl S48) x3),(11,vi ((length x3:Nat):Int)),(12,vi s1.1)] [(0,.var 98 O98 ((x0.1.1,(1000,(1001,x0.1.2.2.2))),5422)),(1000,.row 78 S78 x0.1.2.1),(1001,.row 4 .bool x0.1.2.2.1),(5000,.var 36 S36 s1.2.1),(5041,.var 48 S48 (getD x3 (toNat s1.1) S48.dflt)),(5422,.row 50 S50 (s1.2.2++[(x1,((((getD x0.1.2.1 (toNat x1) S78.dflt).2).2).1,(s1.2.1,getD x3 (toNat s1.1) S48.dflt)))]))] [] [] 5042 rfl rfl (by kernel_rfl) (cc h4 (cc (@rfl Nat ((toNat x1 * 189) + 2)) (cc (oo h4 trivial) (cc h5.1 (cc h5.2 (cc (show (.row 1002:AVal)=(.row 1002) from rfl) c0)))))) (run_renF (ρ':=[(0,.ptr 0 [] 0),(1,vi x1),(6,.ptr 5000 [] 0),(9,.ptr 5041 [] 0),(10,.v (.sl S48) x3),(11,vi ((length x3:Nat):Int)),(12,vi s1.1)]) (H':=[(1002,.row 50 S50 (s1.2.2++[(x1,((((getD x0.1.2.1 (toNat x1) S78.dflt).2).2).1,(s1.2.1,getD x3 (toNat s1.1) S48.dflt)))])),(0,.var 98 O98 ((x0.1.1,(1000,(1001,x0.1.2.2.2))),1002)),(1000,.row 78 S78 x0.1.2.1),(1001,.row 4 .bool x0.1.2.2.1),(5000,.var 36 S36 s1.2.1),(5041,.var 48 S48 (getD x3 (toNat s1.1) S48.dflt))]) 5422 1002 rfl (by kernel_rfl) rfl rfl (by kernel_rfl) rfl (sq rfl (rg [(0,.ptr 0 [] 0),(1,vi x1),(6,.ptr 5000 [] 0),(9,.ptr 5041 [] 0),(10,.v (.sl S48) x3),(11,vi ((length x3:Nat):Int)),(12,vi s1.1),(39,vb ((getD x3 (toNat s1.1) S48.dflt).1))] [(0,.var 98 O98 ((x0.1.1,(1000,(1001,x0.1.2.2.2))),1002)),(1000,.row 78 S78 x0.1.2.1),(1001,.row 4 .bool x0.1.2.2.1),(1002,.row 50 S50 (s1.2.2++[(x1,((((getD x0.1.2.1 (toNat x1) S78.dflt).2).2).1,(s1.2.1,getD x3 (toNat s1.1) S48.dflt)))])),(5000,.var 36 S36 s1.2.1),(5041,.var 48 S48 (getD x3 (toNat s1.1) S48.dflt))] [] [] 5042 rfl (by kernel_rfl) c0 ?_)))
  refine run_if rfl rfl (fun h6=>?_) (fun h6=>?_)
  ·replace hF1:=ift h6 hF1
   refine rg [(0,.ptr 0 [] 0),(1,vi x1),(6,.ptr 5000 [] 0),(10,.v (.sl S48) x3),(11,vi ((length x3:Nat):Int)),(12,vi s1.1)] [(0,.var 98 O98 ((x0.1.1,(1000,(1001,x0.1.2.2.2))),1002)),(1000,.row 78 S78 x0.1.2.1),(1001,.row 4 .bool x0.1.2.2.1),(1002,.row 50 S50 (s1.2.2++[(x1,((((getD x0.1.2.1 (toNat x1) S78.dflt).2).2).1,(s1.2.1,getD x3 (toNat s1.1) S48.dflt)))])),(5000,.var 36 S36 ((((getD x3 (toNat s1.1) S48.dflt).2).2).1))] [] [] 5042 rfl (by kernel_rfl) c0 (eb (rg [(0,.ptr 0 [] 0),(1,vi x1),(6,.ptr 5000 [] 0),(10,.v (.sl S48) x3),(11,vi ((length x3:Nat):Int)),(12,vi (wrap .i64 (s1.1 + 1)))] [(0,.var 98 O98 ((x0.1.1,(1000,(1001,x0.1.2.2.2))),1002)),(1000,.row 78 S78 x0.1.2.1),(1001,.row 4 .bool x0.1.2.2.1),(1002,.row 50 S50 (s1.2.2++[(x1,((((getD x0.1.2.1 (toNat x1) S78.dflt).2).2).1,(s1.2.1,getD x3 (toNat s1.1) S48.dflt)))])),(5000,.var 36 S36 ((((getD x3 (toNat s1.1) S48.dflt).2).2).1))] [] [] 5001 rfl (by kernel_rfl) c0 ?_))
   exact ih1 _ (inj hF1).symm
  ·replace hF1:=ifn h6 hF1
   refine sk rfl (eb (rg [(0,.ptr 0 [] 0),(1,vi x1),(6,.ptr 5000 [] 0),(10,.v (.sl S48) x3),(11,vi ((length x3:Nat):Int)),(12,vi (wrap .i64 (s1.1 + 1)))] [(0,.var 98 O98 ((x0.1.1,(1000,(1001,x0.1.2.2.2))),1002)),(1000,.row 78 S78 x0.1.2.1),(1001,.row 4 .bool x0.1.2.2.1),(1002,.row 50 S50 (s1.2.2++[(x1,((((getD x0.1.2.1 (toNat x1) S78.dflt).2).2).1,(s1.2.1,getD x3 (toNat s1.1) S48.dflt)))])),(5000,.var 36 S36 s1.2.1)] [] [] 5042 rfl (by kernel_rfl) c0 ?_))
   exact ih1 _ (inj hF1).symm
 ·replace hF1:=ifn h2 hF1
  refine run_exit rfl rfl (tm (ρ':=[]) (H':=[(0,.var 98 O98 ((x0.1.1,(1000,(1001,x0.1.2.2.2))),1002)),(1000,.row 78 S78 x0.1.2.1),(1001,.row 4 .bool x0.1.2.2.1),(1002,.row 50 S50 s1.2.2)]) (by kernel_rfl) (by kernel_rfl) rfl ?_)
  exact J1_0 _ (inrI hr1 hF1).symm
noncomputable def F_cluster_run_tick_b2 (t3:S98.ty) (t5:(Str × Int)) (x1:Int) (s2:(Int × ((Int × (Unit × (Unit × (List S93.ty)))) × Unit))):Option ((Int × ((Int × (Unit × (Unit × (List S93.ty)))) × Unit)) ⊕ ((Int × (Unit × (Unit × (List S93.ty)))) × Unit)) :=
 if (decide (s2.1 < ((length t3.1.2.1:Nat):Int)))=true then (show Option Bool from if (s2.1 != x1)=true then some (t5.2 == 0) else some false).bind (fun r3=>if (r3)=true then (F_lossy_Put s2.2.1.2.2.2 [(x1,(s2.1,(t5.1,false)))]).bind fun t6=>(some (Sum.inl (wrap .i64 (s2.1 + 1),((s2.2.1.1,((),((),t6))),())))) else some (Sum.inl (wrap .i64 (s2.1 + 1),((s2.2.1.1,((),((),s2.2.1.2.2.2))),())))) else some (Sum.inr ((s2.2.1.1,((),((),s2.2.1.2.2.2))),()))
noncomputable def F_cluster_run_tick (x0:S98.ty) (x1:Int) (x2:(List (List S39.ty))):Option S98.ty :=
 (F_frame_Check x2).bind fun t1=>((show Option (List (List S39.ty)) from if (t1 != 0)=true then some (replicate 3 (replicate 2 (0,(0,(0,(0,(0,[]))))))) else some x2).bind (fun r1=>if 0≤x1∧x1 < ((length x0.1.2.1:Nat):Int) then (if 0≤x1∧x1 < ((length x0.1.2.1:Nat):Int) then (F_core_Tick (getD x0.1.2.1 (toNat x1) S78.dflt) r1).bind fun t2=>(if 0≤x1∧x1 < ((length x0.1.2.1:Nat):Int) then (F_cluster_run_tell ((x0.1.1,(List.set x0.1.2.1 (toNat x1) t2.1,x0.1.2.2)),x0.2) x1 ((((((getD x0.1.2.1 (toNat x1) S78.dflt).2).2).2).2).1) t2.2.2).bind fun t3=>((F_core_Packet t2.1).bind fun t4=>((F_packet_Encode t4).bind fun t5=>((loopO (F_cluster_run_tick_b2 t3 t5 x1) (0,((t3.1.1,((),((),t3.1.2.2.2))),()))).bind (fun r2=>some ((r2.1.1,(t3.1.2.1,(t3.1.2.2.1,r2.1.2.2.2))),t3.2))))) else none) else none) else none))
theorem W_cluster_run_tick {x0:S98.ty} {x1:Int} {x2:(List (List S39.ty))} {y:S98.ty} (hF0:F_cluster_run_tick x0 x1 x2=some y):Mut Tryz.prog 54 4 [.ptr 0 [] 0,vi x1,.v (.arr 3 (.arr 2 S39)) x2] [(0,.var 98 O98 ((x0.1.1,(1,(2,x0.1.2.2.2))),3)),(1,.row 78 S78 x0.1.2.1),(2,.row 4 .bool x0.1.2.2.1),(3,.row 50 S50 x0.2)] (.tup []) [(0,.var 98 O98 ((y.1.1,(1000,(1001,y.1.2.2.2))),1002)),(1000,.row 78 S78 y.1.2.1),(1001,.row 4 .bool y.1.2.2.1),(1002,.row 50 S50 y.2)]:=by
 unfold F_cluster_run_tick at hF0
 refine mut_of_run @Tryz.call54 @Tryz.func54 rfl rfl fun b=>?_
 refine run_renF (ρ':=[(0,.ptr 0 [] 0),(1,vi x1),(2,.v (.arr 3 (.arr 2 S39)) x2)]) (H':=[(1000,.row 78 S78 x0.1.2.1),(0,.var 98 O98 ((x0.1.1,(1000,(2,x0.1.2.2.2))),3)),(2,.row 4 .bool x0.1.2.2.1),(3,.row 50 S50 x0.2)]) 1 1000 rfl (by kernel_rfl) rfl rfl (by kernel_rfl) rfl (run_renF (ρ':=[(0,.ptr 0 [] 0),(1,vi x1),(2,.v (.arr 3 (.arr 2 S39)) x2)]) (H':=[(1001,.row 4 .bool x0.1.2.2.1),(1000,.row 78 S78 x0.1.2.1),(0,.var 98 O98 ((x0.1.1,(1000,(1001,x0.1.2.2.2))),3)),(3,.row 50 S50 x0.2)]) 2 1001 rfl (by kernel_rfl) rfl rfl (by kernel_rfl) rfl (run_renF (ρ':=[(0,.ptr 0 [] 0),(1,vi x1),(2,.v (.arr 3 (.arr 2 S39)) x2)]) (H':=[(1002,.row 50 S50 x0.2),(1001,.row 4 .bool x0.1.2.2.1),(1000,.row 78 S78 x0.1.2.1),(0,.var 98 O98 ((x0.1.1,(1000,(1001,x0.1.2.2.2))),1002))]) 3 1002 rfl (by kernel_rfl) rfl rfl (by kernel_rfl) rfl (sq rfl (rg [(0,.ptr 0 [] 0),(1,vi x1),(5,.ptr 5000 [] 0)] [(0,.var 98 O98 ((x0.1.1,(1000,(1001,x0.1.2.2.2))),1002)),(1000,.row 78 S78 x0.1.2.1),(1001,.row 4 .bool x0.1.2.2.1),(1002,.row 50 S50 x0.2),(5000,.var 42 (.arr 3 (.arr 2 S39)) x2)] [] [] 5000 rfl (by kernel_rfl) c0 (sq rfl (sq rfl ?_))))))
 obtain ⟨t1,h1,hF0⟩:=obd hF0
 refine rg [(0,.ptr 0 [] 0),(1,vi x1),(5,.ptr 5000 [] 0),(15,vb (t1 != 0))] [(0,.var 98 O98 ((x0.1.1,(1000,(1001,x0.1.2.2.2))),1002)),(1000,.row 78 S78 x0.1.2.1),(1001,.row 4 .bool x0.1.2.2.1),(1002,.row 50 S50 x0.2),(5000,.var 42 (.arr 3 (.arr 2 S39)) x2)] [(1,⟨[.v (.arr 3 (.arr 2 S39))],vi t1,none⟩)] [] 5001 rfl (by kernel_rfl) (cc (W_frame_Check h1) c0) ?_
 obtain ⟨r1,hF1,hF0⟩:=obd hF0
 refine run_cut (fun r1'=>r1=r1') (fun r1=>[(0,.ptr 0 [] 0),(1,vi x1),(5,.ptr 5000 [] 0)]) (fun r1=>[(0,.var 98 O98 ((x0.1.1,(1000,(1001,x0.1.2.2.2))),1002)),(1000,.row 78 S78 x0.1.2.1),(1001,.row 4 .bool x0.1.2.2.1),(1002,.row 50 S50 x0.2),(5000,.var 42 (.arr 3 (.arr 2 S39)) r1)]) (fun r1' h2=>?_) (fun J1_0=>?_)
 ·subst h2
  refine sq rfl ?_
  obtain ⟨h3,hF0⟩:=ifg hF0
  refine rg [(0,.ptr 0 [] 0),(1,vi x1),(5,.ptr 5000 [] 0),(6,.ptr 5181 [] 0)] [(0,.var 98 O98 ((x0.1.1,(1000,(1001,x0.1.2.2.2))),1002)),(1000,.row 78 S78 x0.1.2.1),(1001,.row 4 .bool x0.1.2.2.1),(1002,.row 50 S50 x0.2),(5000,.var 42 (.arr 3 (.arr 2 S39)) r1),(5181,.var 36 S36 ((((((getD x0.1.2.1 (toNat x1) S78.dflt).2).2).2).2).1))] [] [] 5001 rfl (by kernel_rfl) (cc h3 (cc (@rfl Nat ((toNat x1 * 189) + 20)) (cc (oo h3 trivial) c0))) (sq rfl ?_)
  obtain ⟨h4,hF0⟩:=ifg hF0
  obtain ⟨t2,h5,hF0⟩:=obd hF0
  refine rG [(0,.ptr 0 [] 0),(1,vi x1),(6,.ptr 5181 [] 0),(7,.ptr 5462 [] 0),(9,.v (.sl S48) t2.2.2)] [(0,.var 98 O98 ((x0.1.1,(1000,(1001,x0.1.2.2.2))),1002)),(1000,.row 78 S78 x0.1.2.1),(1001,.row 4 .bool x0.1.2.2.1),(1002,.row 50 S50 x0.2),(5181,.var 36 S36 ((((((getD x0.1.2.1 (toNat x1) S78.dflt).2).2).2).2).1)),(5462,.var 78 S78 t2.1)] [(9,⟨[.v S78,.v (.arr 3 (.arr 2 S39))],.tup [.v S78 t2.1,vb t2.2.1,.v (.sl S48) t2.2.2],none⟩)] [] 5182 rfl rfl (by kernel_rfl) (cc h4 (cc (@rfl Nat (toNat x1 * 189)) (cc (oo h4 trivial) (cc (W_core_Tick h5) (cc (show (.row 1000:AVal)=(.row 1000) from rfl) (cc (show (.ptr 1000 [.i (toNat x1)] (toNat x1 * 189):AVal)=(.ptr 1000 [.i (toNat x1)] (toNat x1 * 189)) from rfl) (cc h4 (cc (show (.v S78 (getD x0.1.2.1 (toNat x1) S78.dflt):AVal)=(.v S78 (getD x0.1.2.1 (toNat x1) S78.dflt)) from rfl) (cc (@rfl Nat (toNat x1 * 189)) (cc (oo h4 trivial) (cc (show (.v (.arr 3 (.arr 2 S39)) r1:AVal)=(.v (.arr 3 (.arr 2 S39)) r1) from rfl) c0))))))))))) (sq rfl ?_)
  obtain ⟨h6,hF0⟩:=ifg hF0
  refine rG [(0,.ptr 0 [] 0),(1,vi x1),(6,.ptr 5181 [] 0),(7,.ptr 5462 [] 0),(9,.v (.sl S48) t2.2.2)] [(0,.var 98 O98 ((x0.1.1,(1000,(1001,x0.1.2.2.2))),1002)),(1000,.row 78 S78 (List.set x0.1.2.1 (toNat x1) t2.1)),(1001,.row 4 .bool x0.1.2.2.1),(1002,.row 50 S50 x0.2),(5181,.var 36 S36 ((((((getD x0.1.2.1 (toNat x1) S78.dflt).2).2).2).2).1)),(5462,.var 78 S78 t2.1)] [] [] 5463 rfl rfl (by kernel_rfl) (cc h6 (cc (@rfl Nat (toNat x1 * 189)) (cc (oo h6 trivial) c0))) (sq rfl ?_)
  obtain ⟨t3,h7,hF0⟩:=obd hF0
  refine rg [(0,.ptr 0 [] 0),(1,vi x1),(7,.ptr 5462 [] 0)] [(0,.var 98 O98 ((t3.1.1,(6543,(6544,t3.1.2.2.2))),6545)),(5462,.var 78 S78 t2.1),(6543,.row 78 S78 t3.1.2.1),(6544,.row 4 .bool t3.1.2.2.1),(6545,.row 50 S50 t3.2)] [(4,⟨[.v .unit,.v (.int .i64),.v S36,.v (.sl S48)],.tup [],some ([0,1000,1001,1002],[(0,.var 98 O98 ((t3.1.1,(1000,(1001,t3.1.2.2.2))),1002)),(1000,.row 78 S78 t3.1.2.1),(1001,.row 4 .bool t3.1.2.2.1),(1002,.row 50 S50 t3.2)])⟩)] [] 5463 rfl (by kernel_rfl) (cc (W_cluster_run_tell h7) c0) (run_renF (ρ':=[(0,.ptr 0 [] 0),(1,vi x1),(7,.ptr 5462 [] 0)]) (H':=[(1000,.row 78 S78 t3.1.2.1),(0,.var 98 O98 ((t3.1.1,(1000,(6544,t3.1.2.2.2))),6545)),(5462,.var 78 S78 t2.1),(6544,.row 4 .bool t3.1.2.2.1),(6545,.row 50 S50 t3.2)]) 6543 1000 rfl (by kernel_rfl) rfl rfl (by kernel_rfl) rfl (run_renF (ρ':=[(0,.ptr 0 [] 0),(1,vi x1),(7,.ptr 5462 [] 0)]) (H':=[(1001,.row 4 .bool t3.1.2.2.1),(1000,.row 78 S78 t3.1.2.1),(0,.var 98 O98 ((t3.1.1,(1000,(1001,t3.1.2.2.2))),6545)),(5462,.var 78 S78 t2.1),(6545,.row 50 S50 t3.2)]) 6544 1001 rfl (by kernel_rfl) rfl rfl (by kernel_rfl) rfl (run_renF (ρ':=[(0,.ptr 0 [] 0),(1,vi x1),(7,.ptr 5462 [] 0)]) (H':=[(1002,.row 50 S50 t3.2),(1001,.row 4 .bool t3.1.2.2.1),(1000,.row 78 S78 t3.1.2.1),(0,.var 98 O98 ((t3.1.1,(1000,(1001,t3.1.2.2.2))),1002)),(5462,.var 78 S78 t2.1)]) 6545 1002 rfl (by kernel_rfl) rfl rfl (by kernel_rfl) rfl (sq rfl ?_))))
  obtain ⟨t4,h8,hF0⟩:=obd hF0
  obtain ⟨t5,h9,hF0⟩:=obd hF0
  refine rg [(0,.ptr 0 [] 0),(1,vi x1),(10,vs t5.1),(11,vi t5.2)] [(0,.var 98 O98 ((t3.1.1,(1000,(1001,t3.1.2.2.2))),1002)),(1000,.row 78 S78 t3.1.2.1),(1001,.row 4 .bool t3.1.2.2.1),(1002,.row 50 S50 t3.2)] [(1,⟨[.v S78],.v S110 t4,none⟩),(2,⟨[.v S110],.tup [vs t5.1,vi t5.2],none⟩)] [] 5463 rfl (by kernel_rfl) (cc (W_core_Packet h8) (cc (W_packet_Encode h9) c0)) (sq rfl (rg [(0,.ptr 0 [] 0),(1,vi x1),(10,vs t5.1),(11,vi t5.2),(64,vi ((length t3.1.2.1:Nat):Int)),(65,vi 0)] [(0,.var 98 O98 ((t3.1.1,(1000,(1001,t3.1.2.2.2))),1002)),(1000,.row 78 S78 t3.1.2.1),(1001,.row 4 .bool t3.1.2.2.1),(1002,.row 50 S50 t3.2)] [] [] 5000 rfl (by kernel_rfl) c0 (bk rfl ?_)))
  obtain ⟨r2,hl2,hF0⟩:=obd hF0
  refine run_cutx 0 rfl (fun r2'=>r2=r2') (fun r2=>[]) (fun r2=>[(0,.var 98 O98 ((r2.1.1,(1000,(1001,r2.1.2.2.2))),1002)),(1000,.row 78 S78 t3.1.2.1),(1001,.row 4 .bool t3.1.2.2.1),(1002,.row 50 S50 t3.2)]) (fun r2' h10=>?_) (fun J2_0=>?_)
  ·subst h10
   obtain rfl:=inj hF0
   exact fall_mut (q:=[]) [] [0,1000,1001,1002] rfl (by kernel_rfl) rfl (by kernel_rfl)
  refine run_loop rfl (run_loopO hl2 (fun s2=>[(0,.ptr 0 [] 0),(1,vi x1),(10,vs t5.1),(11,vi t5.2),(64,vi ((length t3.1.2.1:Nat):Int)),(65,vi s2.1)]) (fun s2=>[(0,.var 98 O98 ((s2.2.1.1,(1000,(1001,s2.2.1.2.2.2))),1002)),(1000,.row 78 S78 t3.1.2.1),(1001,.row 4 .bool t3.1.2.2.1),(1002,.row 50 S50 t3.2)]) rfl rfl (fun s2 o2 hF1 ih2 hr2=>?_))
  unfold F_cluster_run_tick_b2 at hF1
  refine run_again (sq rfl (rg [(0,.ptr 0 [] 0),(1,vi x1),(10,vs t5.1),(11,vi t5.2),(64,vi ((length t3.1.2.1:Nat):Int)),(65,vi s2.1),(66,vb (decide (s2.1 < ((length t3.1.2.1:Nat):Int))))] [(0,.var 98 O98 ((s2.2.1.1,(1000,(1001,s2.2.1.2.2.2))),1002)),(1000,.row 78 S78 t3.1.2.1),(1001,.row 4 .bool t3.1.2.2.1),(1002,.row 50 S50 t3.2)] [] [] 5000 rfl (by kernel_rfl) c0 (sq rfl ?_)))
  refine run_if rfl rfl (fun h11=>?_) (fun h11=>?_)
  ·replace hF1:=ift h11 hF1
   refine sk rfl (sq rfl (bk rfl (sq rfl (rg [(0,.ptr 0 [] 0),(1,vi x1),(10,vs t5.1),(11,vi t5.2),(12,vi s2.1),(64,vi ((length t3.1.2.1:Nat):Int)),(65,vi s2.1)] [(0,.var 98 O98 ((s2.2.1.1,(1000,(1001,s2.2.1.2.2.2))),1002)),(1000,.row 78 S78 t3.1.2.1),(1001,.row 4 .bool t3.1.2.2.1),(1002,.row 50 S50 t3.2)] [] [] 5000 rfl (by kernel_rfl) c0 (sq rfl ?_)))))
   obtain ⟨r3,hF2,hF1⟩:=obd hF1
   refine run_cut (fun r3'=>r3=r3') (fun r3=>[(0,.ptr 0 [] 0),(1,vi x1),(10,vs t5.1),(11,vi t5.2),(12,vi s2.1),(64,vi ((length t3.1.2.1:Nat):Int)),(65,vi s2.1),(74,vb r3)]) (fun r3=>[(0,.var 98 O98 ((s2.2.1.1,(1000,(1001,s2.2.1.2.2.2))),1002)),(1000,.row 78 S78 t3.1.2.1),(1001,.row 4 .bool t3.1.2.2.1),(1002,.row 50 S50 t3.2)]) (fun r3' h12=>?_) (fun J3_0=>?_)
   ·subst h12
    refine run_if rfl rfl (fun h13=>?_) (fun h13=>?_)
    ·replace hF1:=ift h13 hF1
     obtain ⟨t6,h14,hF1⟩:=obd hF1
     refine rg [(0,.ptr 0 [] 0),(1,vi x1),(10,vs t5.1),(11,vi t5.2),(64,vi ((length t3.1.2.1:Nat):Int)),(65,vi s2.1)] [(0,.var 98 O98 ((s2.2.1.1,(1000,(1001,t6))),1002)),(1000,.row 78 S78 t3.1.2.1),(1001,.row 4 .bool t3.1.2.2.1),(1002,.row 50 S50 t3.2)] [(10,⟨[],.v (.sl S93) [(x1,(s2.1,(t5.1,false)))],none⟩),(11,⟨[.v (.sl S93),.v (.sl S93)],.v (.sl S93) t6,none⟩)] [] 5000 rfl (by kernel_rfl) (cc (W_lossy_Put h14) c0) (eb (rg [(0,.ptr 0 [] 0),(1,vi x1),(10,vs t5.1),(11,vi t5.2),(64,vi ((length t3.1.2.1:Nat):Int)),(65,vi (wrap .i64 (s2.1 + 1)))] [(0,.var 98 O98 ((s2.2.1.1,(1000,(1001,t6))),1002)),(1000,.row 78 S78 t3.1.2.1),(1001,.row 4 .bool t3.1.2.2.1),(1002,.row 50 S50 t3.2)] [] [] 5000 rfl (by kernel_rfl) c0 ?_))
     exact ih2 _ (inj hF1).symm
    ·replace hF1:=ifn h13 hF1
     refine sk rfl (eb (rg [(0,.ptr 0 [] 0),(1,vi x1),(10,vs t5.1),(11,vi t5.2),(64,vi ((length t3.1.2.1:Nat):Int)),(65,vi (wrap .i64 (s2.1 + 1)))] [(0,.var 98 O98 ((s2.2.1.1,(1000,(1001,s2.2.1.2.2.2))),1002)),(1000,.row 78 S78 t3.1.2.1),(1001,.row 4 .bool t3.1.2.2.1),(1002,.row 50 S50 t3.2)] [] [] 5000 rfl (by kernel_rfl) c0 ?_))
     exact ih2 _ (inj hF1).symm
   rcases Bool.eq_false_or_eq_true (s2.1 != x1) with h15 | h15
   ·replace hF2:=ift h15 hF2
    refine rg [(0,.ptr 0 [] 0),(1,vi x1),(10,vs t5.1),(11,vi t5.2),(12,vi s2.1),(64,vi ((length t3.1.2.1:Nat):Int)),(65,vi s2.1),(74,vb (t5.2 == 0))] [(0,.var 98 O98 ((s2.2.1.1,(1000,(1001,s2.2.1.2.2.2))),1002)),(1000,.row 78 S78 t3.1.2.1),(1001,.row 4 .bool t3.1.2.2.1),(1002,.row 50 S50 t3.2)] [] [(3,true)] 5000 rfl (by kernel_rfl) (cc h15 c0) ?_
    exact J3_0 _ (inj hF2).symm
   ·replace hF2:=ifn h15 hF2
    refine rg [(0,.ptr 0 [] 0),(1,vi x1),(10,vs t5.1),(11,vi t5.2),(12,vi s2.1),(64,vi ((length t3.1.2.1:Nat):Int)),(65,vi s2.1),(74,vb false)] [(0,.var 98 O98 ((s2.2.1.1,(1000,(1001,s2.2.1.2.2.2))),1002)),(1000,.row 78 S78 t3.1.2.1),(1001,.row 4 .bool t3.1.2.2.1),(1002,.row 50 S50 t3.2)] [] [(3,false)] 5000 rfl (by kernel_rfl) (cc h15 c0) ?_
    exact J3_0 _ (inj hF2).symm
  ·replace hF1:=ifn h11 hF1
   refine run_exit rfl rfl (tm (ρ':=[]) (H':=[(0,.var 98 O98 ((s2.2.1.1,(1000,(1001,s2.2.1.2.2.2))),1002)),(1000,.row 78 S78 t3.1.2.1),(1001,.row 4 .bool t3.1.2.2.1),(1002,.row 50 S50 t3.2)]) (by kernel_rfl) (by kernel_rfl) rfl ?_)
   exact J2_0 _ (inrI hr2 hF1).symm
 refine run_if rfl rfl (fun h16=>?_) (fun h16=>?_)
 ·replace hF1:=ift h16 hF1
  refine rg [(0,.ptr 0 [] 0),(1,vi x1),(5,.ptr 5000 [] 0)] [(0,.var 98 O98 ((x0.1.1,(1000,(1001,x0.1.2.2.2))),1002)),(1000,.row 78 S78 x0.1.2.1),(1001,.row 4 .bool x0.1.2.2.1),(1002,.row 50 S50 x0.2),(5000,.var 42 (.arr 3 (.arr 2 S39)) (replicate 3 (replicate 2 (0,(0,(0,(0,(0,[]))))))))] [] [] 5001 rfl (by kernel_rfl) c0 ?_
  exact J1_0 _ (inj hF1).symm
 ·replace hF1:=ifn h16 hF1
  refine sk rfl (tm (ρ':=[(0,.ptr 0 [] 0),(1,vi x1),(5,.ptr 5000 [] 0)]) (H':=[(0,.var 98 O98 ((x0.1.1,(1000,(1001,x0.1.2.2.2))),1002)),(1000,.row 78 S78 x0.1.2.1),(1001,.row 4 .bool x0.1.2.2.1),(1002,.row 50 S50 x0.2),(5000,.var 42 (.arr 3 (.arr 2 S39)) x2)]) (by kernel_rfl) (by kernel_rfl) rfl ?_)
  exact J1_0 _ (inj hF1).symm
noncomputable def F_cluster_run_arrive (x0:S98.ty) (x1:S93.ty):Option S98.ty :=
 (F_packet_Decode x1.2.2.1).bind fun t1=>((show Option Bool from if (t1.2 != 0)=true then some true else (F_cluster_run_has x0 x1.2.1).bind fun t4=>(some (!t4))).bind (fun r1=>if (r1)=true then some x0 else if 0≤x1.2.1∧x1.2.1 < ((length x0.1.2.1:Nat):Int) then (if 0≤x1.2.1∧x1.2.1 < ((length x0.1.2.1:Nat):Int) then (F_core_Receive (getD x0.1.2.1 (toNat x1.2.1) S78.dflt) t1.1).bind fun t2=>(if 0≤x1.2.1∧x1.2.1 < ((length x0.1.2.1:Nat):Int) then (F_cluster_run_tell ((x0.1.1,(List.set x0.1.2.1 (toNat x1.2.1) t2.1,x0.1.2.2)),x0.2) x1.2.1 ((((((getD x0.1.2.1 (toNat x1.2.1) S78.dflt).2).2).2).2).1) t2.2.2).bind fun t3=>(some t3) else none) else none) else none))
theorem W_cluster_run_arrive {x0:S98.ty} {x1:S93.ty} {y:S98.ty} (hF0:F_cluster_run_arrive x0 x1=some y):Mut Tryz.prog 93 4 [.ptr 0 [] 0,.v S93 x1] [(0,.var 98 O98 ((x0.1.1,(1,(2,x0.1.2.2.2))),3)),(1,.row 78 S78 x0.1.2.1),(2,.row 4 .bool x0.1.2.2.1),(3,.row 50 S50 x0.2)] (.tup []) [(0,.var 98 O98 ((y.1.1,(1000,(1001,y.1.2.2.2))),1002)),(1000,.row 78 S78 y.1.2.1),(1001,.row 4 .bool y.1.2.2.1),(1002,.row 50 S50 y.2)]:=by
 unfold F_cluster_run_arrive at hF0
 refine mut_of_run @Tryz.call93 @Tryz.func93 rfl rfl fun b=>?_
 refine run_renF (ρ':=[(0,.ptr 0 [] 0),(1,.v S93 x1)]) (H':=[(1000,.row 78 S78 x0.1.2.1),(0,.var 98 O98 ((x0.1.1,(1000,(2,x0.1.2.2.2))),3)),(2,.row 4 .bool x0.1.2.2.1),(3,.row 50 S50 x0.2)]) 1 1000 rfl (by kernel_rfl) rfl rfl (by kernel_rfl) rfl (run_renF (ρ':=[(0,.ptr 0 [] 0),(1,.v S93 x1)]) (H':=[(1001,.row 4 .bool x0.1.2.2.1),(1000,.row 78 S78 x0.1.2.1),(0,.var 98 O98 ((x0.1.1,(1000,(1001,x0.1.2.2.2))),3)),(3,.row 50 S50 x0.2)]) 2 1001 rfl (by kernel_rfl) rfl rfl (by kernel_rfl) rfl (run_renF (ρ':=[(0,.ptr 0 [] 0),(1,.v S93 x1)]) (H':=[(1002,.row 50 S50 x0.2),(1001,.row 4 .bool x0.1.2.2.1),(1000,.row 78 S78 x0.1.2.1),(0,.var 98 O98 ((x0.1.1,(1000,(1001,x0.1.2.2.2))),1002))]) 3 1002 rfl (by kernel_rfl) rfl rfl (by kernel_rfl) rfl (sq rfl (rg [(0,.ptr 0 [] 0),(3,.ptr 5000 [] 0)] [(0,.var 98 O98 ((x0.1.1,(1000,(1001,x0.1.2.2.2))),1002)),(1000,.row 78 S78 x0.1.2.1),(1001,.row 4 .bool x0.1.2.2.1),(1002,.row 50 S50 x0.2),(5000,.var 93 S93 x1)] [] [] 5000 rfl (by kernel_rfl) c0 (sq rfl ?_)))))
 obtain ⟨t1,h1,hF0⟩:=obd hF0
 refine rg [(0,.ptr 0 [] 0),(3,.ptr 5000 [] 0),(4,.ptr 5121 [] 0),(5,vi t1.2)] [(0,.var 98 O98 ((x0.1.1,(1000,(1001,x0.1.2.2.2))),1002)),(1000,.row 78 S78 x0.1.2.1),(1001,.row 4 .bool x0.1.2.2.1),(1002,.row 50 S50 x0.2),(5000,.var 93 S93 x1),(5121,.var 110 S110 t1.1)] [(2,⟨[.v .str],.tup [.v S110 t1.1,vi t1.2],none⟩)] [] 5001 rfl (by kernel_rfl) (cc (W_packet_Decode h1) c0) (sq rfl (sq rfl ?_))
 obtain ⟨r1,hF1,hF0⟩:=obd hF0
 refine run_cut (fun r1'=>r1=r1') (fun r1=>[(0,.ptr 0 [] 0),(3,.ptr 5000 [] 0),(4,.ptr 5121 [] 0),(24,vb r1)]) (fun r1=>[(0,.var 98 O98 ((x0.1.1,(1000,(1001,x0.1.2.2.2))),1002)),(1000,.row 78 S78 x0.1.2.1),(1001,.row 4 .bool x0.1.2.2.1),(1002,.row 50 S50 x0.2),(5000,.var 93 S93 x1),(5121,.var 110 S110 t1.1)]) (fun r1' h2=>?_) (fun J1_0=>?_)
 ·subst h2
  refine run_if rfl rfl (fun h3=>?_) (fun h3=>?_)
  ·replace hF0:=ift h3 hF0
   refine tm (ρ':=[]) (H':=[(0,.var 98 O98 ((x0.1.1,(1000,(1001,x0.1.2.2.2))),1002)),(1000,.row 78 S78 x0.1.2.1),(1001,.row 4 .bool x0.1.2.2.1),(1002,.row 50 S50 x0.2)]) (by kernel_rfl) (by kernel_rfl) rfl ?_
   obtain rfl:=inj hF0
   exact ret_mut (q:=[]) [] [0,1000,1001,1002] rfl rfl (by kernel_rfl) rfl (by kernel_rfl)
  ·replace hF0:=ifn h3 hF0
   refine sk rfl (sq rfl ?_)
   obtain ⟨h4,hF0⟩:=ifg hF0
   refine rG [(0,.ptr 0 [] 0),(3,.ptr 5000 [] 0),(4,.ptr 5121 [] 0),(6,.ptr 5322 [] 0)] [(0,.var 98 O98 ((x0.1.1,(1000,(1001,x0.1.2.2.2))),1002)),(1000,.row 78 S78 x0.1.2.1),(1001,.row 4 .bool x0.1.2.2.1),(1002,.row 50 S50 x0.2),(5000,.var 93 S93 x1),(5121,.var 110 S110 t1.1),(5322,.var 36 S36 ((((((getD x0.1.2.1 (toNat x1.2.1) S78.dflt).2).2).2).2).1))] [] [] 5122 rfl rfl (by kernel_rfl) (cc h4 (cc (@rfl Nat ((toNat x1.2.1 * 189) + 20)) (cc (oo h4 trivial) (cc (show (.row 1000:AVal)=(.row 1000) from rfl) (cc (show (vi x1.2.1:AVal)=(vi x1.2.1) from rfl) (cc (show (.ptr 1000 [.i (toNat x1.2.1)] (toNat x1.2.1 * 189):AVal)=(.ptr 1000 [.i (toNat x1.2.1)] (toNat x1.2.1 * 189)) from rfl) (cc h4 (cc (show (.v S36 ((((((getD x0.1.2.1 (toNat x1.2.1) S78.dflt).2).2).2).2).1):AVal)=(.v S36 ((((((getD x0.1.2.1 (toNat x1.2.1) S78.dflt).2).2).2).2).1)) from rfl) (cc (@rfl Nat ((toNat x1.2.1 * 189) + 20)) (cc (oo h4 trivial) c0)))))))))) (sq rfl ?_)
   obtain ⟨h5,hF0⟩:=ifg hF0
   obtain ⟨t2,h6,hF0⟩:=obd hF0
   refine rG [(0,.ptr 0 [] 0),(3,.ptr 5000 [] 0),(6,.ptr 5322 [] 0),(7,.ptr 5623 [] 0),(9,.v (.sl S48) t2.2.2)] [(0,.var 98 O98 ((x0.1.1,(1000,(1001,x0.1.2.2.2))),1002)),(1000,.row 78 S78 x0.1.2.1),(1001,.row 4 .bool x0.1.2.2.1),(1002,.row 50 S50 x0.2),(5000,.var 93 S93 x1),(5322,.var 36 S36 ((((((getD x0.1.2.1 (toNat x1.2.1) S78.dflt).2).2).2).2).1)),(5623,.var 78 S78 t2.1)] [(10,⟨[.v S78,.v S110],.tup [.v S78 t2.1,vb t2.2.1,.v (.sl S48) t2.2.2],none⟩)] [] 5323 rfl rfl (by kernel_rfl) (cc h5 (cc (@rfl Nat (toNat x1.2.1 * 189)) (cc (oo h5 trivial) (cc (W_core_Receive h6) (cc (show (.row 1000:AVal)=(.row 1000) from rfl) (cc (show (vi x1.2.1:AVal)=(vi x1.2.1) from rfl) (cc (show (.ptr 1000 [.i (toNat x1.2.1)] (toNat x1.2.1 * 189):AVal)=(.ptr 1000 [.i (toNat x1.2.1)] (toNat x1.2.1 * 189)) from rfl) (cc h5 (cc (show (.v S78 (getD x0.1.2.1 (toNat x1.2.1) S78.dflt):AVal)=(.v S78 (getD x0.1.2.1 (toNat x1.2.1) S78.dflt)) from rfl) (cc (@rfl Nat (toNat x1.2.1 * 189)) (cc (oo h5 trivial) (cc (show (.v S110 t1.1:AVal)=(.v S110 t1.1) from rfl) c0)))))))))))) (sq rfl ?_)
   obtain ⟨h7,hF0⟩:=ifg hF0
   refine rG [(0,.ptr 0 [] 0),(3,.ptr 5000 [] 0),(6,.ptr 5322 [] 0),(9,.v (.sl S48) t2.2.2)] [(0,.var 98 O98 ((x0.1.1,(1000,(1001,x0.1.2.2.2))),1002)),(1000,.row 78 S78 (List.set x0.1.2.1 (toNat x1.2.1) t2.1)),(1001,.row 4 .bool x0.1.2.2.1),(1002,.row 50 S50 x0.2),(5000,.var 93 S93 x1),(5322,.var 36 S36 ((((((getD x0.1.2.1 (toNat x1.2.1) S78.dflt).2).2).2).2).1))] [] [] 5624 rfl rfl (by kernel_rfl) (cc h7 (cc (@rfl Nat (toNat x1.2.1 * 189)) (cc (oo h7 trivial) c0))) ?_
   obtain ⟨t3,h8,hF0⟩:=obd hF0
   refine rg [] [(0,.var 98 O98 ((t3.1.1,(6423,(6424,t3.1.2.2.2))),6425)),(6423,.row 78 S78 t3.1.2.1),(6424,.row 4 .bool t3.1.2.2.1),(6425,.row 50 S50 t3.2)] [(5,⟨[.v .unit,.v (.int .i64),.v S36,.v (.sl S48)],.tup [],some ([0,1000,1001,1002],[(0,.var 98 O98 ((t3.1.1,(1000,(1001,t3.1.2.2.2))),1002)),(1000,.row 78 S78 t3.1.2.1),(1001,.row 4 .bool t3.1.2.2.1),(1002,.row 50 S50 t3.2)])⟩)] [] 5323 rfl (by kernel_rfl) (cc (W_cluster_run_tell h8) c0) (run_renF (ρ':=[]) (H':=[(1000,.row 78 S78 t3.1.2.1),(0,.var 98 O98 ((t3.1.1,(1000,(6424,t3.1.2.2.2))),6425)),(6424,.row 4 .bool t3.1.2.2.1),(6425,.row 50 S50 t3.2)]) 6423 1000 rfl (by kernel_rfl) rfl rfl (by kernel_rfl) rfl (run_renF (ρ':=[]) (H':=[(1001,.row 4 .bool t3.1.2.2.1),(1000,.row 78 S78 t3.1.2.1),(0,.var 98 O98 ((t3.1.1,(1000,(1001,t3.1.2.2.2))),6425)),(6425,.row 50 S50 t3.2)]) 6424 1001 rfl (by kernel_rfl) rfl rfl (by kernel_rfl) rfl (run_renF (ρ':=[]) (H':=[(1002,.row 50 S50 t3.2),(1001,.row 4 .bool t3.1.2.2.1),(1000,.row 78 S78 t3.1.2.1),(0,.var 98 O98 ((t3.1.1,(1000,(1001,t3.1.2.2.2))),1002))]) 6425 1002 rfl (by kernel_rfl) rfl rfl (by kernel_rfl) rfl (tm (ρ':=[]) (H':=[(0,.var 98 O98 ((t3.1.1,(1000,(1001,t3.1.2.2.2))),1002)),(1000,.row 78 S78 t3.1.2.1),(1001,.row 4 .bool t3.1.2.2.1),(1002,.row 50 S50 t3.2)]) (by kernel_rfl) (by kernel_rfl) rfl ?_))))
   obtain rfl:=inj hF0
   exact fall_mut (q:=[]) [] [0,1000,1001,1002] rfl (by kernel_rfl) rfl (by kernel_rfl)
 rcases Bool.eq_false_or_eq_true (t1.2 != 0) with h9 | h9
 ·replace hF1:=ift h9 hF1
  refine rg [(0,.ptr 0 [] 0),(3,.ptr 5000 [] 0),(4,.ptr 5121 [] 0),(24,vb true)] [(0,.var 98 O98 ((x0.1.1,(1000,(1001,x0.1.2.2.2))),1002)),(1000,.row 78 S78 x0.1.2.1),(1001,.row 4 .bool x0.1.2.2.1),(1002,.row 50 S50 x0.2),(5000,.var 93 S93 x1),(5121,.var 110 S110 t1.1)] [] [(2,true)] 5122 rfl (by kernel_rfl) (cc h9 c0) ?_
  exact J1_0 _ (inj hF1).symm
 ·replace hF1:=ifn h9 hF1
  obtain ⟨t4,h10,hF1⟩:=obd hF1
  refine rg [(0,.ptr 0 [] 0),(3,.ptr 5000 [] 0),(4,.ptr 5121 [] 0),(24,vb (!t4))] [(0,.var 98 O98 ((x0.1.1,(1000,(1001,x0.1.2.2.2))),1002)),(1000,.row 78 S78 x0.1.2.1),(1001,.row 4 .bool x0.1.2.2.1),(1002,.row 50 S50 x0.2),(5000,.var 93 S93 x1),(5121,.var 110 S110 t1.1)] [(6,⟨[.fp S98,.v (.int .i64)],vb t4,none⟩)] [(2,false)] 5122 rfl (by kernel_rfl) (cc h9 (cc (W_cluster_run_has h10) c0)) ?_
  exact J1_0 _ (inj hF1).symm
abbrev S66:Sh:=(.st (.prod (.int .i64) (.prod (.int .i64) (.prod (.int .i64) (.prod (.int .i64) (.prod (.int .i64) (.prod (.int .u32) (.arr 3 (.arr 2 S39)))))))))
noncomputable def F_cluster_run_letter (x0:S98.ty) (x1:S66.ty):Option S98.ty :=
 if (x1.1 == 4)=true then (F_lossy_Turn x0.1.2.2.2 x1.2.1 x1.2.2.1 x1.2.2.2.1 x1.2.2.2.2.1 x1.2.2.2.2.2.1).bind fun t1=>(some ((x0.1.1,(x0.1.2.1,(x0.1.2.2.1,t1))),x0.2)) else (F_lossy_Take x0.1.2.2.2 x1.2.1 x1.2.2.1 x1.2.2.2.1).bind fun t2=>(if (!t2.2.2)=true then some x0 else if (x1.1 != 2)=true then if (x1.1 != 3)=true then (F_cluster_run_arrive ((x0.1.1,(x0.1.2.1,(x0.1.2.2.1,t2.1))),x0.2) t2.2.1).bind fun t3=>(some t3) else some ((x0.1.1,(x0.1.2.1,(x0.1.2.2.1,t2.1))),x0.2) else if (x1.1 != 3)=true then (F_cluster_run_arrive x0 t2.2.1).bind fun t4=>(some t4) else some x0)
theorem W_cluster_run_letter {x0:S98.ty} {x1:S66.ty} {y:S98.ty} (hF0:F_cluster_run_letter x0 x1=some y):Mut Tryz.prog 55 4 [.ptr 0 [] 0,.v S66 x1] [(0,.var 98 O98 ((x0.1.1,(1,(2,x0.1.2.2.2))),3)),(1,.row 78 S78 x0.1.2.1),(2,.row 4 .bool x0.1.2.2.1),(3,.row 50 S50 x0.2)] (.tup []) [(0,.var 98 O98 ((y.1.1,(1000,(1001,y.1.2.2.2))),1002)),(1000,.row 78 S78 y.1.2.1),(1001,.row 4 .bool y.1.2.2.1),(1002,.row 50 S50 y.2)]:=by
 unfold F_cluster_run_letter at hF0
 refine mut_of_run @Tryz.call55 @Tryz.func55 rfl rfl fun b=>?_
 refine run_renF (ρ':=[(0,.ptr 0 [] 0),(1,.v S66 x1)]) (H':=[(1000,.row 78 S78 x0.1.2.1),(0,.var 98 O98 ((x0.1.1,(1000,(2,x0.1.2.2.2))),3)),(2,.row 4 .bool x0.1.2.2.1),(3,.row 50 S50 x0.2)]) 1 1000 rfl (by kernel_rfl) rfl rfl (by kernel_rfl) rfl (run_renF (ρ':=[(0,.ptr 0 [] 0),(1,.v S66 x1)]) (H':=[(1001,.row 4 .bool x0.1.2.2.1),(1000,.row 78 S78 x0.1.2.1),(0,.var 98 O98 ((x0.1.1,(1000,(1001,x0.1.2.2.2))),3)),(3,.row 50 S50 x0.2)]) 2 1001 rfl (by kernel_rfl) rfl rfl (by kernel_rfl) rfl (run_renF (ρ':=[(0,.ptr 0 [] 0),(1,.v S66 x1)]) (H':=[(1002,.row 50 S50 x0.2),(1001,.row 4 .bool x0.1.2.2.1),(1000,.row 78 S78 x0.1.2.1),(0,.var 98 O98 ((x0.1.1,(1000,(1001,x0.1.2.2.2))),1002))]) 3 1002 rfl (by kernel_rfl) rfl rfl (by kernel_rfl) rfl (sq rfl (rg [(0,.ptr 0 [] 0),(3,.ptr 5000 [] 0)] [(0,.var 98 O98 ((x0.1.1,(1000,(1001,x0.1.2.2.2))),1002)),(1000,.row 78 S78 x0.1.2.1),(1001,.row 4 .bool x0.1.2.2.1),(1002,.row 50 S50 x0.2),(5000,.var 66 S66 x1)] [] [] 5000 rfl (by kernel_rfl) c0 (sq rfl (sq rfl (rg [(0,.ptr 0 [] 0),(3,.ptr 5000 [] 0),(9,vb (x1.1 == 4))] [(0,.var 98 O98 ((x0.1.1,(1000,(1001,x0.1.2.2.2))),1002)),(1000,.row 78 S78 x0.1.2.1),(1001,.row 4 .bool x0.1.2.2.1),(1002,.row 50 S50 x0.2),(5000,.var 66 S66 x1)] [] [] 5001 rfl (by kernel_rfl) c0 ?_)))))))
 refine run_if rfl rfl (fun h1=>?_) (fun h1=>?_)
 ·replace hF0:=ift h1 hF0
  refine sq rfl ?_
  obtain ⟨t1,h2,hF0⟩:=obd hF0
  refine rG [] [(0,.var 98 O98 ((x0.1.1,(1000,(1001,t1))),1002)),(1000,.row 78 S78 x0.1.2.1),(1001,.row 4 .bool x0.1.2.2.1),(1002,.row 50 S50 x0.2)] [(16,⟨[.v (.sl S93),.v (.int .i64),.v (.int .i64),.v (.int .i64),.v (.int .i64),.v (.int .u32)],.v (.sl S93) t1,none⟩)] [] 5001 rfl rfl (by kernel_rfl) (cc (W_lossy_Turn h2) c0) ?_
  obtain rfl:=inj hF0
  exact ret_mut (q:=[]) [] [0,1000,1001,1002] rfl rfl (by kernel_rfl) rfl (by kernel_rfl)
 ·replace hF0:=ifn h1 hF0
  refine sk rfl (sq rfl ?_)
  obtain ⟨t2,h3,hF0⟩:=obd hF0
  refine rG [(0,.ptr 0 [] 0),(3,.ptr 5000 [] 0),(4,.v (.sl S93) t2.1),(5,.ptr 5321 [] 0),(6,vb t2.2.2)] [(0,.var 98 O98 ((x0.1.1,(1000,(1001,x0.1.2.2.2))),1002)),(1000,.row 78 S78 x0.1.2.1),(1001,.row 4 .bool x0.1.2.2.1),(1002,.row 50 S50 x0.2),(5000,.var 66 S66 x1),(5321,.var 93 S93 t2.2.1)] [(11,⟨[.v (.sl S93),.v (.int .i64),.v (.int .i64),.v (.int .i64)],.tup [.v (.sl S93) t2.1,.v S93 t2.2.1,vb t2.2.2],none⟩)] [] 5001 rfl rfl (by kernel_rfl) (cc (W_lossy_Take h3) (cc (show (.v (.sl S93) x0.1.2.2.2:AVal)=(.v (.sl S93) x0.1.2.2.2) from rfl) (cc (show (vi x1.2.1:AVal)=(vi x1.2.1) from rfl) (cc (show (vi x1.2.2.1:AVal)=(vi x1.2.2.1) from rfl) (cc (show (vi x1.2.2.2.1:AVal)=(vi x1.2.2.2.1) from rfl) c0))))) (sq rfl (sq rfl (rg [(0,.ptr 0 [] 0),(3,.ptr 5000 [] 0),(4,.v (.sl S93) t2.1),(5,.ptr 5321 [] 0),(47,vb (!t2.2.2))] [(0,.var 98 O98 ((x0.1.1,(1000,(1001,x0.1.2.2.2))),1002)),(1000,.row 78 S78 x0.1.2.1),(1001,.row 4 .bool x0.1.2.2.1),(1002,.row 50 S50 x0.2),(5000,.var 66 S66 x1),(5321,.var 93 S93 t2.2.1)] [] [] 5322 rfl (by kernel_rfl) c0 ?_)))
  refine run_if rfl rfl (fun h4=>?_) (fun h4=>?_)
  ·replace hF0:=ift h4 hF0
   refine tm (ρ':=[]) (H':=[(0,.var 98 O98 ((x0.1.1,(1000,(1001,x0.1.2.2.2))),1002)),(1000,.row 78 S78 x0.1.2.1),(1001,.row 4 .bool x0.1.2.2.1),(1002,.row 50 S50 x0.2)]) (by kernel_rfl) (by kernel_rfl) rfl ?_
   obtain rfl:=inj hF0
   exact ret_mut (q:=[]) [] [0,1000,1001,1002] rfl rfl (by kernel_rfl) rfl (by kernel_rfl)
  ·replace hF0:=ifn h4 hF0
   refine sk rfl (sq rfl (sq rfl (rg [(0,.ptr 0 [] 0),(3,.ptr 5000 [] 0),(4,.v (.sl S93) t2.1),(5,.ptr 5321 [] 0),(50,vb (x1.1 != 2))] [(0,.var 98 O98 ((x0.1.1,(1000,(1001,x0.1.2.2.2))),1002)),(1000,.row 78 S78 x0.1.2.1),(1001,.row 4 .bool x0.1.2.2.1),(1002,.row 50 S50 x0.2),(5000,.var 66 S66 x1),(5321,.var 93 S93 t2.2.1)] [] [] 5322 rfl (by kernel_rfl) c0 ?_)))
   refine run_if rfl rfl (fun h5=>?_) (fun h5=>?_)
   ·replace hF0:=ift h5 hF0
    refine rg [(0,.ptr 0 [] 0),(3,.ptr 5000 [] 0),(5,.ptr 5321 [] 0)] [(0,.var 98 O98 ((x0.1.1,(1000,(1001,t2.1))),1002)),(1000,.row 78 S78 x0.1.2.1),(1001,.row 4 .bool x0.1.2.2.1),(1002,.row 50 S50 x0.2),(5000,.var 66 S66 x1),(5321,.var 93 S93 t2.2.1)] [] [] 5322 rfl (by kernel_rfl) c0 (sq rfl (rg [(0,.ptr 0 [] 0),(5,.ptr 5321 [] 0),(58,vb (x1.1 != 3))] [(0,.var 98 O98 ((x0.1.1,(1000,(1001,t2.1))),1002)),(1000,.row 78 S78 x0.1.2.1),(1001,.row 4 .bool x0.1.2.2.1),(1002,.row 50 S50 x0.2),(5321,.var 93 S93 t2.2.1)] [] [] 5322 rfl (by kernel_rfl) c0 ?_))
    refine run_if rfl rfl (fun h6=>?_) (fun h6=>?_)
    ·replace hF0:=ift h6 hF0
     obtain ⟨t3,h7,hF0⟩:=obd hF0
     refine rg [] [(0,.var 98 O98 ((t3.1.1,(6362,(6363,t3.1.2.2.2))),6364)),(6362,.row 78 S78 t3.1.2.1),(6363,.row 4 .bool t3.1.2.2.1),(6364,.row 50 S50 t3.2)] [(2,⟨[.v .unit,.v S93],.tup [],some ([0,1000,1001,1002],[(0,.var 98 O98 ((t3.1.1,(1000,(1001,t3.1.2.2.2))),1002)),(1000,.row 78 S78 t3.1.2.1),(1001,.row 4 .bool t3.1.2.2.1),(1002,.row 50 S50 t3.2)])⟩)] [] 5322 rfl (by kernel_rfl) (cc (W_cluster_run_arrive h7) c0) (run_renF (ρ':=[]) (H':=[(1000,.row 78 S78 t3.1.2.1),(0,.var 98 O98 ((t3.1.1,(1000,(6363,t3.1.2.2.2))),6364)),(6363,.row 4 .bool t3.1.2.2.1),(6364,.row 50 S50 t3.2)]) 6362 1000 rfl (by kernel_rfl) rfl rfl (by kernel_rfl) rfl (run_renF (ρ':=[]) (H':=[(1001,.row 4 .bool t3.1.2.2.1),(1000,.row 78 S78 t3.1.2.1),(0,.var 98 O98 ((t3.1.1,(1000,(1001,t3.1.2.2.2))),6364)),(6364,.row 50 S50 t3.2)]) 6363 1001 rfl (by kernel_rfl) rfl rfl (by kernel_rfl) rfl (run_renF (ρ':=[]) (H':=[(1002,.row 50 S50 t3.2),(1001,.row 4 .bool t3.1.2.2.1),(1000,.row 78 S78 t3.1.2.1),(0,.var 98 O98 ((t3.1.1,(1000,(1001,t3.1.2.2.2))),1002))]) 6364 1002 rfl (by kernel_rfl) rfl rfl (by kernel_rfl) rfl (tm (ρ':=[]) (H':=[(0,.var 98 O98 ((t3.1.1,(1000,(1001,t3.1.2.2.2))),1002)),(1000,.row 78 S78 t3.1.2.1),(1001,.row 4 .bool t3.1.2.2.1),(1002,.row 50 S50 t3.2)]) (by kernel_rfl) (by kernel_rfl) rfl ?_))))
     obtain rfl:=inj hF0
     exact fall_mut (q:=[]) [] [0,1000,1001,1002] rfl (by kernel_rfl) rfl (by kernel_rfl)
    ·replace hF0:=ifn h6 hF0
     refine sk rfl (tm (ρ':=[]) (H':=[(0,.var 98 O98 ((x0.1.1,(1000,(1001,t2.1))),1002)),(1000,.row 78 S78 x0.1.2.1),(1001,.row 4 .bool x0.1.2.2.1),(1002,.row 50 S50 x0.2)]) (by kernel_rfl) (by kernel_rfl) rfl ?_)
     obtain rfl:=inj hF0
     exact fall_mut (q:=[]) [] [0,1000,1001,1002] rfl (by kernel_rfl) rfl (by kernel_rfl)
   ·replace hF0:=ifn h5 hF0
    refine sk rfl (sq rfl (rg [(0,.ptr 0 [] 0),(5,.ptr 5321 [] 0),(58,vb (x1.1 != 3))] [(0,.var 98 O98 ((x0.1.1,(1000,(1001,x0.1.2.2.2))),1002)),(1000,.row 78 S78 x0.1.2.1),(1001,.row 4 .bool x0.1.2.2.1),(1002,.row 50 S50 x0.2),(5321,.var 93 S93 t2.2.1)] [] [] 5322 rfl (by kernel_rfl) c0 ?_))
    refine run_if rfl rfl (fun h8=>?_) (fun h8=>?_)
    ·replace hF0:=ift h8 hF0
     obtain ⟨t4,h9,hF0⟩:=obd hF0
     refine rg [] [(0,.var 98 O98 ((t4.1.1,(6362,(6363,t4.1.2.2.2))),6364)),(6362,.row 78 S78 t4.1.2.1),(6363,.row 4 .bool t4.1.2.2.1),(6364,.row 50 S50 t4.2)] [(2,⟨[.v .unit,.v S93],.tup [],some ([0,1000,1001,1002],[(0,.var 98 O98 ((t4.1.1,(1000,(1001,t4.1.2.2.2))),1002)),(1000,.row 78 S78 t4.1.2.1),(1001,.row 4 .bool t4.1.2.2.1),(1002,.row 50 S50 t4.2)])⟩)] [] 5322 rfl (by kernel_rfl) (cc (W_cluster_run_arrive h9) c0) (run_renF (ρ':=[]) (H':=[(1000,.row 78 S78 t4.1.2.1),(0,.var 98 O98 ((t4.1.1,(1000,(6363,t4.1.2.2.2))),6364)),(6363,.row 4 .bool t4.1.2.2.1),(6364,.row 50 S50 t4.2)]) 6362 1000 rfl (by kernel_rfl) rfl rfl (by kernel_rfl) rfl (run_renF (ρ':=[]) (H':=[(1001,.row 4 .bool t4.1.2.2.1),(1000,.row 78 S78 t4.1.2.1),(0,.var 98 O98 ((t4.1.1,(1000,(1001,t4.1.2.2.2))),6364)),(6364,.row 50 S50 t4.2)]) 6363 1001 rfl (by kernel_rfl) rfl rfl (by kernel_rfl) rfl (run_renF (ρ':=[]) (H':=[(1002,.row 50 S50 t4.2),(1001,.row 4 .bool t4.1.2.2.1),(1000,.row 78 S78 t4.1.2.1),(0,.var 98 O98 ((t4.1.1,(1000,(1001,t4.1.2.2.2))),1002))]) 6364 1002 rfl (by kernel_rfl) rfl rfl (by kernel_rfl) rfl (tm (ρ':=[]) (H':=[(0,.var 98 O98 ((t4.1.1,(1000,(1001,t4.1.2.2.2))),1002)),(1000,.row 78 S78 t4.1.2.1),(1001,.row 4 .bool t4.1.2.2.1),(1002,.row 50 S50 t4.2)]) (by kernel_rfl) (by kernel_rfl) rfl ?_))))
     obtain rfl:=inj hF0
     exact fall_mut (q:=[]) [] [0,1000,1001,1002] rfl (by kernel_rfl) rfl (by kernel_rfl)
    ·replace hF0:=ifn h8 hF0
     refine sk rfl (tm (ρ':=[]) (H':=[(0,.var 98 O98 ((x0.1.1,(1000,(1001,x0.1.2.2.2))),1002)),(1000,.row 78 S78 x0.1.2.1),(1001,.row 4 .bool x0.1.2.2.1),(1002,.row 50 S50 x0.2)]) (by kernel_rfl) (by kernel_rfl) rfl ?_)
     obtain rfl:=inj hF0
     exact fall_mut (q:=[]) [] [0,1000,1001,1002] rfl (by kernel_rfl) rfl (by kernel_rfl)
noncomputable def F_cluster_run_up (x0:S98.ty) (x1:Int):Option S98.ty :=
 (show Option Bool from if (decide (x1 < 0))=true then some true else if (decide (x1≥((length x0.1.2.1:Nat):Int)))=true then some true else if (decide (x1≥((length x0.1.2.2.1:Nat):Int)))=true then some true else if 0≤x1∧x1 < ((length x0.1.2.2.1:Nat):Int) then (if (getD x0.1.2.2.1 (toNat x1) false)=true then some true else if 0≤x1∧x1 < ((length x0.1.2.1:Nat):Int) then (some (((((getD x0.1.2.1 (toNat x1) S78.dflt).2).2).1) == 4294967295)) else none) else none).bind (fun r1=>if (r1)=true then some x0 else if 0≤x1∧x1 < ((length x0.1.2.1:Nat):Int) then (F_core_Start x1 (wrap .u32 (((((getD x0.1.2.1 (toNat x1) S78.dflt).2).2).1) + 1)) x0.1.1).bind fun t1=>(if (t1.2)=true then if 0≤x1∧x1 < ((length x0.1.2.1:Nat):Int) then (if 0≤x1∧x1 < ((length x0.1.2.2.1:Nat):Int) then (some ((x0.1.1,(List.set x0.1.2.1 (toNat x1) t1.1,(List.set x0.1.2.2.1 (toNat x1) true,x0.1.2.2.2))),x0.2)) else none) else none else some x0) else none)
theorem W_cluster_run_up {x0:S98.ty} {x1:Int} {y:S98.ty} (hF0:F_cluster_run_up x0 x1=some y):Mut Tryz.prog 56 4 [.ptr 0 [] 0,vi x1] [(0,.var 98 O98 ((x0.1.1,(1,(2,x0.1.2.2.2))),3)),(1,.row 78 S78 x0.1.2.1),(2,.row 4 .bool x0.1.2.2.1),(3,.row 50 S50 x0.2)] (.tup []) [(0,.var 98 O98 ((y.1.1,(1000,(1001,y.1.2.2.2))),1002)),(1000,.row 78 S78 y.1.2.1),(1001,.row 4 .bool y.1.2.2.1),(1002,.row 50 S50 y.2)]:=by
 unfold F_cluster_run_up at hF0
 refine mut_of_run @Tryz.call56 @Tryz.func56 rfl rfl fun b=>?_
 refine run_renF (ρ':=[(0,.ptr 0 [] 0),(1,vi x1)]) (H':=[(1000,.row 78 S78 x0.1.2.1),(0,.var 98 O98 ((x0.1.1,(1000,(2,x0.1.2.2.2))),3)),(2,.row 4 .bool x0.1.2.2.1),(3,.row 50 S50 x0.2)]) 1 1000 rfl (by kernel_rfl) rfl rfl (by kernel_rfl) rfl (run_renF (ρ':=[(0,.ptr 0 [] 0),(1,vi x1)]) (H':=[(1001,.row 4 .bool x0.1.2.2.1),(1000,.row 78 S78 x0.1.2.1),(0,.var 98 O98 ((x0.1.1,(1000,(1001,x0.1.2.2.2))),3)),(3,.row 50 S50 x0.2)]) 2 1001 rfl (by kernel_rfl) rfl rfl (by kernel_rfl) rfl (run_renF (ρ':=[(0,.ptr 0 [] 0),(1,vi x1)]) (H':=[(1002,.row 50 S50 x0.2),(1001,.row 4 .bool x0.1.2.2.1),(1000,.row 78 S78 x0.1.2.1),(0,.var 98 O98 ((x0.1.1,(1000,(1001,x0.1.2.2.2))),1002))]) 3 1002 rfl (by kernel_rfl) rfl rfl (by kernel_rfl) rfl (sq rfl (sq rfl ?_))))
 obtain ⟨r1,hF1,hF0⟩:=obd hF0
 refine run_cut (fun r1'=>r1=r1') (fun r1=>[(0,.ptr 0 [] 0),(1,vi x1),(49,vb r1)]) (fun r1=>[(0,.var 98 O98 ((x0.1.1,(1000,(1001,x0.1.2.2.2))),1002)),(1000,.row 78 S78 x0.1.2.1),(1001,.row 4 .bool x0.1.2.2.1),(1002,.row 50 S50 x0.2)]) (fun r1' h1=>?_) (fun J1_0=>?_)
 ·subst h1
  refine run_if rfl rfl (fun h2=>?_) (fun h2=>?_)
  ·replace hF0:=ift h2 hF0
   refine tm (ρ':=[]) (H':=[(0,.var 98 O98 ((x0.1.1,(1000,(1001,x0.1.2.2.2))),1002)),(1000,.row 78 S78 x0.1.2.1),(1001,.row 4 .bool x0.1.2.2.1),(1002,.row 50 S50 x0.2)]) (by kernel_rfl) (by kernel_rfl) rfl ?_
   obtain rfl:=inj hF0
   exact ret_mut (q:=[]) [] [0,1000,1001,1002] rfl rfl (by kernel_rfl) rfl (by kernel_rfl)
  ·replace hF0:=ifn h2 hF0
   refine sk rfl (sq rfl ?_)
   obtain ⟨h3,hF0⟩:=ifg hF0
   obtain ⟨t1,h4,hF0⟩:=obd hF0
   refine rG [(0,.ptr 0 [] 0),(1,vi x1),(4,.ptr 5400 [] 0),(5,vb t1.2)] [(0,.var 98 O98 ((x0.1.1,(1000,(1001,x0.1.2.2.2))),1002)),(1000,.row 78 S78 x0.1.2.1),(1001,.row 4 .bool x0.1.2.2.1),(1002,.row 50 S50 x0.2),(5400,.var 78 S78 t1.1)] [(16,⟨[.v (.int .i64),.v (.int .u32),.v (.int .i64)],.tup [.v S78 t1.1,vb t1.2],none⟩)] [] 5000 rfl rfl (by kernel_rfl) (cc h3 (cc (@rfl Nat ((toNat x1 * 189) + 2)) (cc (oo h3 trivial) (cc (W_core_Start h4) (cc (show (.row 1000:AVal)=(.row 1000) from rfl) (cc (show (.ptr 1000 [.i (toNat x1)] (toNat x1 * 189):AVal)=(.ptr 1000 [.i (toNat x1)] (toNat x1 * 189)) from rfl) (cc h3 (cc (show (.v (.int .u32) ((((getD x0.1.2.1 (toNat x1) S78.dflt).2).2).1):AVal)=(.v (.int .u32) ((((getD x0.1.2.1 (toNat x1) S78.dflt).2).2).1)) from rfl) (cc (@rfl Nat ((toNat x1 * 189) + 2)) (cc (oo h3 trivial) (cc (show (vi x0.1.1:AVal)=(vi x0.1.1) from rfl) c0))))))))))) (sq rfl (rg [(0,.ptr 0 [] 0),(1,vi x1),(4,.ptr 5400 [] 0),(70,vb t1.2)] [(0,.var 98 O98 ((x0.1.1,(1000,(1001,x0.1.2.2.2))),1002)),(1000,.row 78 S78 x0.1.2.1),(1001,.row 4 .bool x0.1.2.2.1),(1002,.row 50 S50 x0.2),(5400,.var 78 S78 t1.1)] [] [] 5401 rfl (by kernel_rfl) c0 ?_))
   refine run_if rfl rfl (fun h5=>?_) (fun h5=>?_)
   ·replace hF0:=ift h5 hF0
    obtain ⟨h6,hF0⟩:=ifg hF0
    obtain ⟨h7,hF0⟩:=ifg hF0
    refine rG [] [(0,.var 98 O98 ((x0.1.1,(1000,(1001,x0.1.2.2.2))),1002)),(1000,.row 78 S78 (List.set x0.1.2.1 (toNat x1) t1.1)),(1001,.row 4 .bool (List.set x0.1.2.2.1 (toNat x1) true)),(1002,.row 50 S50 x0.2)] [] [] 5401 rfl rfl (by kernel_rfl) (cc h6 (cc (@rfl Nat (toNat x1 * 189)) (cc (oo h6 trivial) (cc h7 (cc (@rfl Nat (toNat x1 * 1)) (cc (oo h7 trivial) c0)))))) ?_
    obtain rfl:=inj hF0
    exact fall_mut (q:=[]) [] [0,1000,1001,1002] rfl (by kernel_rfl) rfl (by kernel_rfl)
   ·replace hF0:=ifn h5 hF0
    refine sk rfl (tm (ρ':=[]) (H':=[(0,.var 98 O98 ((x0.1.1,(1000,(1001,x0.1.2.2.2))),1002)),(1000,.row 78 S78 x0.1.2.1),(1001,.row 4 .bool x0.1.2.2.1),(1002,.row 50 S50 x0.2)]) (by kernel_rfl) (by kernel_rfl) rfl ?_)
    obtain rfl:=inj hF0
    exact fall_mut (q:=[]) [] [0,1000,1001,1002] rfl (by kernel_rfl) rfl (by kernel_rfl)
 rcases Bool.eq_false_or_eq_true (decide (x1 < 0)) with h8 | h8
 ·replace hF1:=ift h8 hF1
  refine rg [(0,.ptr 0 [] 0),(1,vi x1),(49,vb true)] [(0,.var 98 O98 ((x0.1.1,(1000,(1001,x0.1.2.2.2))),1002)),(1000,.row 78 S78 x0.1.2.1),(1001,.row 4 .bool x0.1.2.2.1),(1002,.row 50 S50 x0.2)] [] [(2,true)] 5000 rfl (by kernel_rfl) (cc h8 c0) ?_
  exact J1_0 _ (inj hF1).symm
 ·replace hF1:=ifn h8 hF1
  rcases Bool.eq_false_or_eq_true (decide (x1≥((length x0.1.2.1:Nat):Int))) with h9 | h9
  ·replace hF1:=ift h9 hF1
   refine rg [(0,.ptr 0 [] 0),(1,vi x1),(49,vb true)] [(0,.var 98 O98 ((x0.1.1,(1000,(1001,x0.1.2.2.2))),1002)),(1000,.row 78 S78 x0.1.2.1),(1001,.row 4 .bool x0.1.2.2.1),(1002,.row 50 S50 x0.2)] [] [(2,false),(12,true)] 5000 rfl (by kernel_rfl) (cc h8 (cc h9 c0)) ?_
   exact J1_0 _ (inj hF1).symm
  ·replace hF1:=ifn h9 hF1
   rcases Bool.eq_false_or_eq_true (decide (x1≥((length x0.1.2.2.1:Nat):Int))) with h10 | h10
   ·replace hF1:=ift h10 hF1
    refine rg [(0,.ptr 0 [] 0),(1,vi x1),(49,vb true)] [(0,.var 98 O98 ((x0.1.1,(1000,(1001,x0.1.2.2.2))),1002)),(1000,.row 78 S78 x0.1.2.1),(1001,.row 4 .bool x0.1.2.2.1),(1002,.row 50 S50 x0.2)] [] [(2,false),(12,false),(22,true)] 5000 rfl (by kernel_rfl) (cc h8 (cc h9 (cc h10 c0))) ?_
    exact J1_0 _ (inj hF1).symm
   ·replace hF1:=ifn h10 hF1
    obtain ⟨h11,hF1⟩:=ifg hF1
    rcases Bool.eq_false_or_eq_true (getD x0.1.2.2.1 (toNat x1) false) with h12 | h12
    ·replace hF1:=ift h12 hF1
     refine rg [(0,.ptr 0 [] 0),(1,vi x1),(49,vb true)] [(0,.var 98 O98 ((x0.1.1,(1000,(1001,x0.1.2.2.2))),1002)),(1000,.row 78 S78 x0.1.2.1),(1001,.row 4 .bool x0.1.2.2.1),(1002,.row 50 S50 x0.2)] [] [(2,false),(12,false),(22,false),(32,true)] 5000 rfl (by kernel_rfl) (cc h8 (cc h9 (cc h10 (cc h11 (cc (@rfl Nat (toNat x1 * 1)) (cc (oo h11 trivial) (cc h12 c0))))))) ?_
     exact J1_0 _ (inj hF1).symm
    ·replace hF1:=ifn h12 hF1
     obtain ⟨h13,hF1⟩:=ifg hF1
     refine rg [(0,.ptr 0 [] 0),(1,vi x1),(49,vb (((((getD x0.1.2.1 (toNat x1) S78.dflt).2).2).1) == 4294967295))] [(0,.var 98 O98 ((x0.1.1,(1000,(1001,x0.1.2.2.2))),1002)),(1000,.row 78 S78 x0.1.2.1),(1001,.row 4 .bool x0.1.2.2.1),(1002,.row 50 S50 x0.2)] [] [(2,false),(12,false),(22,false),(32,false)] 5000 rfl (by kernel_rfl) (cc h8 (cc h9 (cc h10 (cc h11 (cc (@rfl Nat (toNat x1 * 1)) (cc (oo h11 trivial) (cc h12 (cc h13 (cc (@rfl Nat ((toNat x1 * 189) + 2)) (cc (oo h13 trivial) c0)))))))))) ?_
     exact J1_0 _ (inj hF1).symm
noncomputable def F_cluster_run_step (x0:S98.ty) (x1:S66.ty):Option S98.ty :=
 if (x1.1 == 0)=true then (F_cluster_run_has x0 x1.2.1).bind fun t1=>(if (t1)=true then (F_cluster_run_tick x0 x1.2.1 x1.2.2.2.2.2.2).bind fun t2=>(some t2) else some x0) else (show Option Bool from if (x1.1 == 1)=true then some (x1.1 == 1) else if (x1.1 == 2)=true then some (x1.1 == 2) else if (x1.1 == 3)=true then some (x1.1 == 3) else some (x1.1 == 4)).bind (fun r1=>if (r1)=true then (F_cluster_run_letter x0 x1).bind fun t3=>(some t3) else if (x1.1 == 5)=true then (F_cluster_run_has x0 x1.2.1).bind fun t4=>(if (t4)=true then if 0≤x1.2.1∧x1.2.1 < ((length x0.1.2.2.1:Nat):Int) then (some ((x0.1.1,(x0.1.2.1,(List.set x0.1.2.2.1 (toNat x1.2.1) false,x0.1.2.2.2))),x0.2)) else none else some x0) else if (x1.1 == 6)=true then (F_cluster_run_up x0 x1.2.1).bind fun t5=>(some t5) else some x0)
theorem W_cluster_run_step {x0:S98.ty} {x1:S66.ty} {y:S98.ty} (hF0:F_cluster_run_step x0 x1=some y):Mut Tryz.prog 41 4 [.ptr 0 [] 0,.v S66 x1] [(0,.var 98 O98 ((x0.1.1,(1,(2,x0.1.2.2.2))),3)),(1,.row 78 S78 x0.1.2.1),(2,.row 4 .bool x0.1.2.2.1),(3,.row 50 S50 x0.2)] (.tup []) [(0,.var 98 O98 ((y.1.1,(1000,(1001,y.1.2.2.2))),1002)),(1000,.row 78 S78 y.1.2.1),(1001,.row 4 .bool y.1.2.2.1),(1002,.row 50 S50 y.2)]:=by
 unfold F_cluster_run_step at hF0
 refine mut_of_run @Tryz.call41 @Tryz.func41 rfl rfl fun b=>?_
 refine run_renF (ρ':=[(0,.ptr 0 [] 0),(1,.v S66 x1)]) (H':=[(1000,.row 78 S78 x0.1.2.1),(0,.var 98 O98 ((x0.1.1,(1000,(2,x0.1.2.2.2))),3)),(2,.row 4 .bool x0.1.2.2.1),(3,.row 50 S50 x0.2)]) 1 1000 rfl (by kernel_rfl) rfl rfl (by kernel_rfl) rfl (run_renF (ρ':=[(0,.ptr 0 [] 0),(1,.v S66 x1)]) (H':=[(1001,.row 4 .bool x0.1.2.2.1),(1000,.row 78 S78 x0.1.2.1),(0,.var 98 O98 ((x0.1.1,(1000,(1001,x0.1.2.2.2))),3)),(3,.row 50 S50 x0.2)]) 2 1001 rfl (by kernel_rfl) rfl rfl (by kernel_rfl) rfl (run_renF (ρ':=[(0,.ptr 0 [] 0),(1,.v S66 x1)]) (H':=[(1002,.row 50 S50 x0.2),(1001,.row 4 .bool x0.1.2.2.1),(1000,.row 78 S78 x0.1.2.1),(0,.var 98 O98 ((x0.1.1,(1000,(1001,x0.1.2.2.2))),1002))]) 3 1002 rfl (by kernel_rfl) rfl rfl (by kernel_rfl) rfl (sq rfl (rg [(0,.ptr 0 [] 0),(3,.ptr 5000 [] 0)] [(0,.var 98 O98 ((x0.1.1,(1000,(1001,x0.1.2.2.2))),1002)),(1000,.row 78 S78 x0.1.2.1),(1001,.row 4 .bool x0.1.2.2.1),(1002,.row 50 S50 x0.2),(5000,.var 66 S66 x1)] [] [] 5000 rfl (by kernel_rfl) c0 (sq rfl (rg [(0,.ptr 0 [] 0),(3,.ptr 5000 [] 0),(5,vi x1.1)] [(0,.var 98 O98 ((x0.1.1,(1000,(1001,x0.1.2.2.2))),1002)),(1000,.row 78 S78 x0.1.2.1),(1001,.row 4 .bool x0.1.2.2.1),(1002,.row 50 S50 x0.2),(5000,.var 66 S66 x1)] [] [] 5001 rfl (by kernel_rfl) c0 (bk rfl (sq rfl (rg [(0,.ptr 0 [] 0),(3,.ptr 5000 [] 0),(5,vi x1.1),(6,vb (x1.1 == 0))] [(0,.var 98 O98 ((x0.1.1,(1000,(1001,x0.1.2.2.2))),1002)),(1000,.row 78 S78 x0.1.2.1),(1001,.row 4 .bool x0.1.2.2.1),(1002,.row 50 S50 x0.2),(5000,.var 66 S66 x1)] [] [] 5001 rfl (by kernel_rfl) c0 ?_)))))))))
 refine run_if rfl rfl (fun h1=>?_) (fun h1=>?_)
 ·replace hF0:=ift h1 hF0
  refine sq rfl ?_
  obtain ⟨t1,h2,hF0⟩:=obd hF0
  refine rg [(0,.ptr 0 [] 0),(3,.ptr 5000 [] 0),(11,vb t1)] [(0,.var 98 O98 ((x0.1.1,(1000,(1001,x0.1.2.2.2))),1002)),(1000,.row 78 S78 x0.1.2.1),(1001,.row 4 .bool x0.1.2.2.1),(1002,.row 50 S50 x0.2),(5000,.var 66 S66 x1)] [(3,⟨[.fp S98,.v (.int .i64)],vb t1,none⟩)] [] 5001 rfl (by kernel_rfl) (cc (W_cluster_run_has h2) c0) ?_
  refine run_if rfl rfl (fun h3=>?_) (fun h3=>?_)
  ·replace hF0:=ift h3 hF0
   obtain ⟨t2,h4,hF0⟩:=obd hF0
   refine rg [] [(0,.var 98 O98 ((t2.1.1,(6101,(6102,t2.1.2.2.2))),6103)),(6101,.row 78 S78 t2.1.2.1),(6102,.row 4 .bool t2.1.2.2.1),(6103,.row 50 S50 t2.2)] [(5,⟨[.v .unit,.v (.int .i64),.v (.arr 3 (.arr 2 S39))],.tup [],some ([0,1000,1001,1002],[(0,.var 98 O98 ((t2.1.1,(1000,(1001,t2.1.2.2.2))),1002)),(1000,.row 78 S78 t2.1.2.1),(1001,.row 4 .bool t2.1.2.2.1),(1002,.row 50 S50 t2.2)])⟩)] [] 5001 rfl (by kernel_rfl) (cc (W_cluster_run_tick h4) c0) (run_renF (ρ':=[]) (H':=[(1000,.row 78 S78 t2.1.2.1),(0,.var 98 O98 ((t2.1.1,(1000,(6102,t2.1.2.2.2))),6103)),(6102,.row 4 .bool t2.1.2.2.1),(6103,.row 50 S50 t2.2)]) 6101 1000 rfl (by kernel_rfl) rfl rfl (by kernel_rfl) rfl (run_renF (ρ':=[]) (H':=[(1001,.row 4 .bool t2.1.2.2.1),(1000,.row 78 S78 t2.1.2.1),(0,.var 98 O98 ((t2.1.1,(1000,(1001,t2.1.2.2.2))),6103)),(6103,.row 50 S50 t2.2)]) 6102 1001 rfl (by kernel_rfl) rfl rfl (by kernel_rfl) rfl (run_renF (ρ':=[]) (H':=[(1002,.row 50 S50 t2.2),(1001,.row 4 .bool t2.1.2.2.1),(1000,.row 78 S78 t2.1.2.1),(0,.var 98 O98 ((t2.1.1,(1000,(1001,t2.1.2.2.2))),1002))]) 6103 1002 rfl (by kernel_rfl) rfl rfl (by kernel_rfl) rfl (eb (tm (ρ':=[]) (H':=[(0,.var 98 O98 ((t2.1.1,(1000,(1001,t2.1.2.2.2))),1002)),(1000,.row 78 S78 t2.1.2.1),(1001,.row 4 .bool t2.1.2.2.1),(1002,.row 50 S50 t2.2)]) (by kernel_rfl) (by kernel_rfl) rfl ?_)))))
   obtain rfl:=inj hF0
   exact fall_mut (q:=[]) [] [0,1000,1001,1002] rfl (by kernel_rfl) rfl (by kernel_rfl)
  ·replace hF0:=ifn h3 hF0
   refine sk rfl (eb (tm (ρ':=[]) (H':=[(0,.var 98 O98 ((x0.1.1,(1000,(1001,x0.1.2.2.2))),1002)),(1000,.row 78 S78 x0.1.2.1),(1001,.row 4 .bool x0.1.2.2.1),(1002,.row 50 S50 x0.2)]) (by kernel_rfl) (by kernel_rfl) rfl ?_))
   obtain rfl:=inj hF0
   exact fall_mut (q:=[]) [] [0,1000,1001,1002] rfl (by kernel_rfl) rfl (by kernel_rfl)
 ·replace hF0:=ifn h1 hF0
  refine sq rfl (sq rfl (rg [(0,.ptr 0 [] 0),(3,.ptr 5000 [] 0),(5,vi x1.1),(18,vb (x1.1 == 1))] [(0,.var 98 O98 ((x0.1.1,(1000,(1001,x0.1.2.2.2))),1002)),(1000,.row 78 S78 x0.1.2.1),(1001,.row 4 .bool x0.1.2.2.1),(1002,.row 50 S50 x0.2),(5000,.var 66 S66 x1)] [] [] 5001 rfl (by kernel_rfl) c0 ?_))
  obtain ⟨r1,hF1,hF0⟩:=obd hF0
  refine run_cut (fun r1'=>r1=r1') (fun r1=>[(0,.ptr 0 [] 0),(3,.ptr 5000 [] 0),(5,vi x1.1),(18,vb r1)]) (fun r1=>[(0,.var 98 O98 ((x0.1.1,(1000,(1001,x0.1.2.2.2))),1002)),(1000,.row 78 S78 x0.1.2.1),(1001,.row 4 .bool x0.1.2.2.1),(1002,.row 50 S50 x0.2),(5000,.var 66 S66 x1)]) (fun r1' h5=>?_) (fun J1_0=>?_)
  ·subst h5
   refine run_if rfl rfl (fun h6=>?_) (fun h6=>?_)
   ·replace hF0:=ift h6 hF0
    obtain ⟨t3,h7,hF0⟩:=obd hF0
    refine rg [] [(0,.var 98 O98 ((t3.1.1,(6041,(6042,t3.1.2.2.2))),6043)),(6041,.row 78 S78 t3.1.2.1),(6042,.row 4 .bool t3.1.2.2.1),(6043,.row 50 S50 t3.2)] [(2,⟨[.v .unit,.v S66],.tup [],some ([0,1000,1001,1002],[(0,.var 98 O98 ((t3.1.1,(1000,(1001,t3.1.2.2.2))),1002)),(1000,.row 78 S78 t3.1.2.1),(1001,.row 4 .bool t3.1.2.2.1),(1002,.row 50 S50 t3.2)])⟩)] [] 5001 rfl (by kernel_rfl) (cc (W_cluster_run_letter h7) c0) (run_renF (ρ':=[]) (H':=[(1000,.row 78 S78 t3.1.2.1),(0,.var 98 O98 ((t3.1.1,(1000,(6042,t3.1.2.2.2))),6043)),(6042,.row 4 .bool t3.1.2.2.1),(6043,.row 50 S50 t3.2)]) 6041 1000 rfl (by kernel_rfl) rfl rfl (by kernel_rfl) rfl (run_renF (ρ':=[]) (H':=[(1001,.row 4 .bool t3.1.2.2.1),(1000,.row 78 S78 t3.1.2.1),(0,.var 98 O98 ((t3.1.1,(1000,(1001,t3.1.2.2.2))),6043)),(6043,.row 50 S50 t3.2)]) 6042 1001 rfl (by kernel_rfl) rfl rfl (by kernel_rfl) rfl (run_renF (ρ':=[]) (H':=[(1002,.row 50 S50 t3.2),(1001,.row 4 .bool t3.1.2.2.1),(1000,.row 78 S78 t3.1.2.1),(0,.var 98 O98 ((t3.1.1,(1000,(1001,t3.1.2.2.2))),1002))]) 6043 1002 rfl (by kernel_rfl) rfl rfl (by kernel_rfl) rfl (eb (tm (ρ':=[]) (H':=[(0,.var 98 O98 ((t3.1.1,(1000,(1001,t3.1.2.2.2))),1002)),(1000,.row 78 S78 t3.1.2.1),(1001,.row 4 .bool t3.1.2.2.1),(1002,.row 50 S50 t3.2)]) (by kernel_rfl) (by kernel_rfl) rfl ?_)))))
    obtain rfl:=inj hF0
    exact fall_mut (q:=[]) [] [0,1000,1001,1002] rfl (by kernel_rfl) rfl (by kernel_rfl)
   ·replace hF0:=ifn h6 hF0
    refine sq rfl (rg [(0,.ptr 0 [] 0),(3,.ptr 5000 [] 0),(5,vi x1.1),(26,vb (x1.1 == 5))] [(0,.var 98 O98 ((x0.1.1,(1000,(1001,x0.1.2.2.2))),1002)),(1000,.row 78 S78 x0.1.2.1),(1001,.row 4 .bool x0.1.2.2.1),(1002,.row 50 S50 x0.2),(5000,.var 66 S66 x1)] [] [] 5001 rfl (by kernel_rfl) c0 ?_)
    refine run_if rfl rfl (fun h8=>?_) (fun h8=>?_)
    ·replace hF0:=ift h8 hF0
     refine sq rfl ?_
     obtain ⟨t4,h9,hF0⟩:=obd hF0
     refine rg [(0,.ptr 0 [] 0),(3,.ptr 5000 [] 0),(31,vb t4)] [(0,.var 98 O98 ((x0.1.1,(1000,(1001,x0.1.2.2.2))),1002)),(1000,.row 78 S78 x0.1.2.1),(1001,.row 4 .bool x0.1.2.2.1),(1002,.row 50 S50 x0.2),(5000,.var 66 S66 x1)] [(3,⟨[.fp S98,.v (.int .i64)],vb t4,none⟩)] [] 5001 rfl (by kernel_rfl) (cc (W_cluster_run_has h9) c0) ?_
     refine run_if rfl rfl (fun h10=>?_) (fun h10=>?_)
     ·replace hF0:=ift h10 hF0
      obtain ⟨h11,hF0⟩:=ifg hF0
      refine rG [] [(0,.var 98 O98 ((x0.1.1,(1000,(1001,x0.1.2.2.2))),1002)),(1000,.row 78 S78 x0.1.2.1),(1001,.row 4 .bool (List.set x0.1.2.2.1 (toNat x1.2.1) false)),(1002,.row 50 S50 x0.2)] [] [] 5001 rfl rfl (by kernel_rfl) (cc h11 (cc (@rfl Nat (toNat x1.2.1 * 1)) (cc (oo h11 trivial) c0))) (eb ?_)
      obtain rfl:=inj hF0
      exact fall_mut (q:=[]) [] [0,1000,1001,1002] rfl (by kernel_rfl) rfl (by kernel_rfl)
     ·replace hF0:=ifn h10 hF0
      refine sk rfl (eb (tm (ρ':=[]) (H':=[(0,.var 98 O98 ((x0.1.1,(1000,(1001,x0.1.2.2.2))),1002)),(1000,.row 78 S78 x0.1.2.1),(1001,.row 4 .bool x0.1.2.2.1),(1002,.row 50 S50 x0.2)]) (by kernel_rfl) (by kernel_rfl) rfl ?_))
      obtain rfl:=inj hF0
      exact fall_mut (q:=[]) [] [0,1000,1001,1002] rfl (by kernel_rfl) rfl (by kernel_rfl)
    ·replace hF0:=ifn h8 hF0
     refine sq rfl (rg [(0,.ptr 0 [] 0),(3,.ptr 5000 [] 0),(40,vb (x1.1 == 6))] [(0,.var 98 O98 ((x0.1.1,(1000,(1001,x0.1.2.2.2))),1002)),(1000,.row 78 S78 x0.1.2.1),(1001,.row 4 .bool x0.1.2.2.1),(1002,.row 50 S50 x0.2),(5000,.var 66 S66 x1)] [] [] 5001 rfl (by kernel_rfl) c0 ?_)
     refine run_if rfl rfl (fun h12=>?_) (fun h12=>?_)
     ·replace hF0:=ift h12 hF0
      obtain ⟨t5,h13,hF0⟩:=obd hF0
      refine rg [] [(0,.var 98 O98 ((t5.1.1,(6061,(6062,t5.1.2.2.2))),6063)),(6061,.row 78 S78 t5.1.2.1),(6062,.row 4 .bool t5.1.2.2.1),(6063,.row 50 S50 t5.2)] [(3,⟨[.v .unit,.v (.int .i64)],.tup [],some ([0,1000,1001,1002],[(0,.var 98 O98 ((t5.1.1,(1000,(1001,t5.1.2.2.2))),1002)),(1000,.row 78 S78 t5.1.2.1),(1001,.row 4 .bool t5.1.2.2.1),(1002,.row 50 S50 t5.2)])⟩)] [] 5001 rfl (by kernel_rfl) (cc (W_cluster_run_up h13) c0) (run_renF (ρ':=[]) (H':=[(1000,.row 78 S78 t5.1.2.1),(0,.var 98 O98 ((t5.1.1,(1000,(6062,t5.1.2.2.2))),6063)),(6062,.row 4 .bool t5.1.2.2.1),(6063,.row 50 S50 t5.2)]) 6061 1000 rfl (by kernel_rfl) rfl rfl (by kernel_rfl) rfl (run_renF (ρ':=[]) (H':=[(1001,.row 4 .bool t5.1.2.2.1),(1000,.row 78 S78 t5.1.2.1),(0,.var 98 O98 ((t5.1.1,(1000,(1001,t5.1.2.2.2))),6063)),(6063,.row 50 S50 t5.2)]) 6062 1001 rfl (by kernel_rfl) rfl rfl (by kernel_rfl) rfl (run_renF (ρ':=[]) (H':=[(1002,.row 50 S50 t5.2),(1001,.row 4 .bool t5.1.2.2.1),(1000,.row 78 S78 t5.1.2.1),(0,.var 98 O98 ((t5.1.1,(1000,(1001,t5.1.2.2.2))),1002))]) 6063 1002 rfl (by kernel_rfl) rfl rfl (by kernel_rfl) rfl (eb (tm (ρ':=[]) (H':=[(0,.var 98 O98 ((t5.1.1,(1000,(1001,t5.1.2.2.2))),1002)),(1000,.row 78 S78 t5.1.2.1),(1001,.row 4 .bool t5.1.2.2.1),(1002,.row 50 S50 t5.2)]) (by kernel_rfl) (by kernel_rfl) rfl ?_)))))
      obtain rfl:=inj hF0
      exact fall_mut (q:=[]) [] [0,1000,1001,1002] rfl (by kernel_rfl) rfl (by kernel_rfl)
     ·replace hF0:=ifn h12 hF0
      refine sk rfl (eb (tm (ρ':=[]) (H':=[(0,.var 98 O98 ((x0.1.1,(1000,(1001,x0.1.2.2.2))),1002)),(1000,.row 78 S78 x0.1.2.1),(1001,.row 4 .bool x0.1.2.2.1),(1002,.row 50 S50 x0.2)]) (by kernel_rfl) (by kernel_rfl) rfl ?_))
      obtain rfl:=inj hF0
      exact fall_mut (q:=[]) [] [0,1000,1001,1002] rfl (by kernel_rfl) rfl (by kernel_rfl)
  refine run_if rfl rfl (fun h14=>?_) (fun h14=>?_)
  ·replace hF1:=ift h14 hF1
   refine sk rfl ?_
   exact J1_0 _ (inj hF1).symm
  ·replace hF1:=ifn h14 hF1
   refine sq rfl (rg [(0,.ptr 0 [] 0),(3,.ptr 5000 [] 0),(5,vi x1.1),(18,vb (x1.1 == 2))] [(0,.var 98 O98 ((x0.1.1,(1000,(1001,x0.1.2.2.2))),1002)),(1000,.row 78 S78 x0.1.2.1),(1001,.row 4 .bool x0.1.2.2.1),(1002,.row 50 S50 x0.2),(5000,.var 66 S66 x1)] [] [] 5001 rfl (by kernel_rfl) c0 ?_)
   refine run_if rfl rfl (fun h15=>?_) (fun h15=>?_)
   ·replace hF1:=ift h15 hF1
    refine sk rfl ?_
    exact J1_0 _ (inj hF1).symm
   ·replace hF1:=ifn h15 hF1
    refine sq rfl (rg [(0,.ptr 0 [] 0),(3,.ptr 5000 [] 0),(5,vi x1.1),(18,vb (x1.1 == 3))] [(0,.var 98 O98 ((x0.1.1,(1000,(1001,x0.1.2.2.2))),1002)),(1000,.row 78 S78 x0.1.2.1),(1001,.row 4 .bool x0.1.2.2.1),(1002,.row 50 S50 x0.2),(5000,.var 66 S66 x1)] [] [] 5001 rfl (by kernel_rfl) c0 ?_)
    refine run_if rfl rfl (fun h16=>?_) (fun h16=>?_)
    ·replace hF1:=ift h16 hF1
     refine sk rfl ?_
     exact J1_0 _ (inj hF1).symm
    ·replace hF1:=ifn h16 hF1
     refine rg [(0,.ptr 0 [] 0),(3,.ptr 5000 [] 0),(5,vi x1.1),(18,vb (x1.1 == 4))] [(0,.var 98 O98 ((x0.1.1,(1000,(1001,x0.1.2.2.2))),1002)),(1000,.row 78 S78 x0.1.2.1),(1001,.row 4 .bool x0.1.2.2.1),(1002,.row 50 S50 x0.2),(5000,.var 66 S66 x1)] [] [] 5001 rfl (by kernel_rfl) c0 ?_
     exact J1_0 _ (inj hF1).symm
noncomputable def F_cluster_Run_b2 (x1:(List S66.ty)) (s2:(Int × ((Int × (Unit × (Unit × (List S93.ty)))) × Unit) × (List S78.ty) × (List Bool) × (List S50.ty))):Option ((Int × ((Int × (Unit × (Unit × (List S93.ty)))) × Unit) × (List S78.ty) × (List Bool) × (List S50.ty)) ⊕ (((Int × (Unit × (Unit × (List S93.ty)))) × Unit) × (List S78.ty) × (List Bool) × (List S50.ty))) :=
 if (decide (s2.1 < ((length x1:Nat):Int)))=true then if 0≤s2.1∧s2.1 < ((length x1:Nat):Int) then (F_cluster_run_step ((s2.2.1.1.1,(s2.2.2.1,(s2.2.2.2.1,s2.2.1.1.2.2.2))),s2.2.2.2.2) (getD x1 (toNat s2.1) S66.dflt)).bind fun t3=>(some (Sum.inl (wrap .i64 (s2.1 + 1),((t3.1.1,((),((),t3.1.2.2.2))),()),t3.1.2.1,t3.1.2.2.1,t3.2))) else none else some (Sum.inr (((s2.2.1.1.1,((),((),s2.2.1.1.2.2.2))),()),s2.2.2.1,s2.2.2.2.1,s2.2.2.2.2))
noncomputable def F_cluster_Run_b1 (x0:S29.ty) (s1:(Int × (List S78.ty))):Option ((Int × (List S78.ty)) ⊕ (List S78.ty)) :=
 if (decide (s1.1 < ((length x0.2.1:Nat):Int)))=true then if 0≤s1.1∧s1.1 < ((length x0.2.1:Nat):Int) then (F_slices_Clone_api_Kept_api_Kept (((((((((getD x0.2.1 (toNat s1.1) S78.dflt).2).2).2).2).2).2).2).1)).bind fun t4=>(if apOk (length s1.2 + 1) 792 then (some (Sum.inl (wrap .i64 (s1.1 + 1),s1.2++[((getD x0.2.1 (toNat s1.1) S78.dflt).1,(((getD x0.2.1 (toNat s1.1) S78.dflt).2).1,((((getD x0.2.1 (toNat s1.1) S78.dflt).2).2).1,(((((getD x0.2.1 (toNat s1.1) S78.dflt).2).2).2).1,((((((getD x0.2.1 (toNat s1.1) S78.dflt).2).2).2).2).1,(((((((getD x0.2.1 (toNat s1.1) S78.dflt).2).2).2).2).2).1,((((((((getD x0.2.1 (toNat s1.1) S78.dflt).2).2).2).2).2).2).1,(t4,((((((((getD x0.2.1 (toNat s1.1) S78.dflt).2).2).2).2).2).2).2).2))))))))]))) else none) else none else some (Sum.inr s1.2)
noncomputable def F_cluster_Run (x0:S29.ty) (x1:(List S66.ty)):Option (S29.ty × (List S50.ty)) :=
 (F_slices_Clone_bool_bool x0.2.2.1).bind fun t1=>((F_slices_Clone_api_Letter_api_Letter x0.2.2.2).bind fun t2=>((loopO (F_cluster_Run_b1 x0) (0,[])).bind (fun r1=>(loopO (F_cluster_Run_b2 x1) (0,((x0.1,((),((),t2))),()),r1,t1,[])).bind (fun r2=>some ((r2.1.1.1,(r2.2.1,(r2.2.2.1,r2.1.1.2.2.2))),r2.2.2.2)))))
theorem W_cluster_Run {x0:S29.ty} {x1:(List S66.ty)} {y:(S29.ty × (List S50.ty))} (hF0:F_cluster_Run x0 x1=some y):Pure Tryz.prog 27 [.v S29 x0,.v (.sl S66) x1] (.tup [.v S29 y.1,.v (.sl S50) y.2]):=by
 unfold F_cluster_Run at hF0
 refine pure_of_run @Tryz.call27 @Tryz.func27 rfl rfl fun w M ho=>?_
 refine sq rfl (rg [(1,.v (.sl S66) x1),(2,.ptr 5000 [] 0),(4,.ptr 5020 [] 0)] [(5000,.var 29 S29 x0),(5020,.var 29 Z29 (0,((),((),()))))] [] [] 5000 rfl (by kernel_rfl) c0 (run_nilF (H':=[(1064,.row 78 S78 []),(5000,.var 29 S29 x0),(5020,.var 29 (.st (.prod (.int .i64) (.prod .ref (.prod (.nl .bool) (.nl S93))))) (0,(1064,((),()))))]) 5020 1064 [.u,.r,.l] 78 S78 rfl rfl rfl rfl rfl rfl (by kernel_rfl) rfl (run_nilF (H':=[(1065,.row 4 .bool []),(1064,.row 78 S78 []),(5000,.var 29 S29 x0),(5020,.var 29 (.st (.prod (.int .i64) (.prod .ref (.prod .ref (.nl S93))))) (0,(1064,(1065,()))))]) 5020 1065 [.u,.r,.r,.l] 4 .bool rfl rfl rfl rfl rfl rfl (by kernel_rfl) rfl (sq rfl ?_))))
 obtain ⟨t1,h1,hF0⟩:=obd hF0
 obtain ⟨t2,h2,hF0⟩:=obd hF0
 refine rG [(1,.v (.sl S66) x1),(2,.ptr 5000 [] 0),(4,.ptr 5020 [] 0),(6,.ptr 5221 [] 0)] [(1064,.row 78 S78 []),(1065,.row 4 .bool []),(5000,.var 29 S29 x0),(5020,.var 29 (.st (.prod (.int .i64) (.prod .ref (.prod .ref (.nl S93))))) (0,(1064,(1065,())))),(5101,.row 4 .bool t1),(5221,.var 98 (.st (.prod (.st (.prod (.int .i64) (.prod (.nl S78) (.prod .ref (.sl S93))))) (.nl S50))) ((x0.1,((),(5101,t2))),()))] [(4,⟨[.v (.sl .bool)],.row 0,some ([],[(0,.row 4 .bool t1)])⟩),(7,⟨[.v (.sl S93)],.v (.sl S93) t2,none⟩)] [] 5021 rfl rfl (by kernel_rfl) (cc (W_slices_Clone_bool_bool h1) (cc (show Pure Tryz.prog 39 [.v (.sl S93) x0.2.2.2] (.v (.sl S93) t2) from pure_of_mut rfl (W_slices_Clone_api_Letter_api_Letter h2)) (cc (show (vi x0.1:AVal)=(vi x0.1) from rfl) (cc (show (.v (.sl S93) x0.2.2.2:AVal)=(.v (.sl S93) x0.2.2.2) from rfl) c0)))) (run_nilF (H':=[(1128,.row 78 S78 []),(1064,.row 78 S78 []),(1065,.row 4 .bool []),(5000,.var 29 S29 x0),(5020,.var 29 (.st (.prod (.int .i64) (.prod .ref (.prod .ref (.nl S93))))) (0,(1064,(1065,())))),(5101,.row 4 .bool t1),(5221,.var 98 (.st (.prod O29 (.nl S50))) ((x0.1,(1128,(5101,t2))),()))]) 5221 1128 [.u,.l,.u,.r,.l] 78 S78 rfl rfl rfl rfl rfl rfl (by kernel_rfl) rfl (run_renF (ρ':=[(1,.v (.sl S66) x1),(2,.ptr 5000 [] 0),(4,.ptr 5020 [] 0),(6,.ptr 5221 [] 0)]) (H':=[(1129,.row 4 .bool t1),(1128,.row 78 S78 []),(1064,.row 78 S78 []),(1065,.row 4 .bool []),(5000,.var 29 S29 x0),(5020,.var 29 (.st (.prod (.int .i64) (.prod .ref (.prod .ref (.nl S93))))) (0,(1064,(1065,())))),(5221,.var 98 (.st (.prod O29 (.nl S50))) ((x0.1,(1128,(1129,t2))),()))]) 5101 1129 rfl (by kernel_rfl) rfl rfl (by kernel_rfl) rfl (run_nilF (H':=[(1130,.row 50 S50 []),(1129,.row 4 .bool t1),(1128,.row 78 S78 []),(1064,.row 78 S78 []),(1065,.row 4 .bool []),(5000,.var 29 S29 x0),(5020,.var 29 (.st (.prod (.int .i64) (.prod .ref (.prod .ref (.nl S93))))) (0,(1064,(1065,())))),(5221,.var 98 O98 ((x0.1,(1128,(1129,t2))),1130))]) 5221 1130 [.u,.r] 50 S50 rfl rfl rfl rfl rfl rfl (by kernel_rfl) rfl (sq rfl (sq rfl (rg [(1,.v (.sl S66) x1),(4,.ptr 5020 [] 0),(6,.ptr 5221 [] 0),(23,.v (.sl S78) x0.2.1),(24,vi ((length x0.2.1:Nat):Int)),(25,vi 0)] [(1064,.row 78 S78 []),(1065,.row 4 .bool []),(1128,.row 78 S78 []),(1129,.row 4 .bool t1),(1130,.row 50 S50 []),(5020,.var 29 (.st (.prod (.int .i64) (.prod .ref (.prod .ref (.nl S93))))) (0,(1064,(1065,())))),(5221,.var 98 O98 ((x0.1,(1128,(1129,t2))),1130))] [] [] 5222 rfl (by kernel_rfl) c0 (bk rfl ?_)))))))
 obtain ⟨r1,hl1,hF0⟩:=obd hF0
 refine run_cutx 0 rfl (fun r1'=>r1=r1') (fun r1=>[(1,.v (.sl S66) x1),(4,.ptr 5020 [] 0),(6,.ptr 5221 [] 0)]) (fun r1=>[(1064,.row 78 S78 []),(1065,.row 4 .bool []),(1128,.row 78 S78 r1),(1129,.row 4 .bool t1),(1130,.row 50 S50 []),(5020,.var 29 (.st (.prod (.int .i64) (.prod .ref (.prod .ref (.nl S93))))) (0,(1064,(1065,())))),(5221,.var 98 O98 ((x0.1,(1128,(1129,t2))),1130))]) (fun r1' h3=>?_) (fun J1_0=>?_)
 ·subst h3
  refine sq rfl (sq rfl (rg [(4,.ptr 5020 [] 0),(6,.ptr 5221 [] 0),(46,.v (.sl S66) x1),(47,vi ((length x1:Nat):Int)),(48,vi 0)] [(1064,.row 78 S78 []),(1065,.row 4 .bool []),(1128,.row 78 S78 r1),(1129,.row 4 .bool t1),(1130,.row 50 S50 []),(5020,.var 29 (.st (.prod (.int .i64) (.prod .ref (.prod .ref (.nl S93))))) (0,(1064,(1065,())))),(5221,.var 98 O98 ((x0.1,(1128,(1129,t2))),1130))] [] [] 5222 rfl (by kernel_rfl) c0 (bk rfl ?_)))
  obtain ⟨r2,hl2,hF0⟩:=obd hF0
  refine run_cutx 2 rfl (fun r2'=>r2=r2') (fun r2=>[(4,.ptr 5020 [] 0),(6,.ptr 5221 [] 0)]) (fun r2=>[(1064,.row 78 S78 []),(1065,.row 4 .bool []),(1128,.row 78 S78 r2.2.1),(1129,.row 4 .bool r2.2.2.1),(1130,.row 50 S50 r2.2.2.2),(5020,.var 29 (.st (.prod (.int .i64) (.prod .ref (.prod .ref (.nl S93))))) (0,(1064,(1065,())))),(5221,.var 98 O98 ((r2.1.1.1,(1128,(1129,r2.1.1.2.2.2))),1130))]) (fun r2' h4=>?_) (fun J2_0=>?_)
  ·subst h4
   refine sq rfl (rG [(4,.ptr 5020 [] 0),(5,.row 1130)] [(1128,.row 78 S78 r2.2.1),(1129,.row 4 .bool r2.2.2.1),(1130,.row 50 S50 r2.2.2.2),(5020,.var 29 O29 (r2.1.1.1,(1128,(1129,r2.1.1.2.2.2))))] [] [] 5222 rfl rfl (by kernel_rfl) (cc (show (.row 1130:AVal)=(.row 1130) from rfl) c0) (run_renF (ρ':=[(4,.ptr 5020 [] 0),(5,.row 1130)]) (H':=[(1064,.row 78 S78 r2.2.1),(1129,.row 4 .bool r2.2.2.1),(1130,.row 50 S50 r2.2.2.2),(5020,.var 29 O29 (r2.1.1.1,(1064,(1129,r2.1.1.2.2.2))))]) 1128 1064 rfl (by kernel_rfl) rfl rfl (by kernel_rfl) rfl (run_renF (ρ':=[(4,.ptr 5020 [] 0),(5,.row 1130)]) (H':=[(1065,.row 4 .bool r2.2.2.1),(1064,.row 78 S78 r2.2.1),(1130,.row 50 S50 r2.2.2.2),(5020,.var 29 O29 (r2.1.1.1,(1064,(1065,r2.1.1.2.2.2))))]) 1129 1065 rfl (by kernel_rfl) rfl rfl (by kernel_rfl) rfl ?_)))
   obtain rfl:=inj hF0
   refine tm (ρ':=[(4,.ptr 5020 [] 0),(5,.row 1130)]) (H':=[(1064,.row 78 S78 r2.2.1),(1065,.row 4 .bool r2.2.2.1),(1130,.row 50 S50 r2.2.2.2),(5020,.var 29 O29 (r2.1.1.1,(1064,(1065,r2.1.1.2.2.2))))]) (by kernel_rfl) (by kernel_rfl) rfl (run_frzC (ρ':=[(4,.ptr 5020 [] 0),(5,.row 1130)]) (H':=[(1065,.row 4 .bool r2.2.2.1),(1130,.row 50 S50 r2.2.2.2),(5020,.var 29 (.st (.prod (.int .i64) (.prod (.sl S78) (.prod .ref (.sl S93))))) (r2.1.1.1,(r2.2.1,(1065,r2.1.1.2.2.2))))]) 1064 rfl rfl rfl (by kernel_rfl) (by kernel_rfl) (run_frzC (ρ':=[(4,.ptr 5020 [] 0),(5,.row 1130)]) (H':=[(1130,.row 50 S50 r2.2.2.2),(5020,.var 29 S29 (r2.1.1.1,(r2.2.1,(r2.2.2.1,r2.1.1.2.2.2))))]) 1065 rfl rfl rfl (by kernel_rfl) (by kernel_rfl) (run_frz (ρ':=[(4,.ptr 5020 [] 0),(5,.v (.sl S50) r2.2.2.2)]) (H':=[(5020,.var 29 S29 (r2.1.1.1,(r2.2.1,(r2.2.2.1,r2.1.1.2.2.2))))]) 1130 rfl rfl rfl (by kernel_rfl) (by kernel_rfl) ?_)))
   exact ret_pure (q:=[.v S29 (r2.1.1.1,(r2.2.1,(r2.2.2.1,r2.1.1.2.2.2))),.v (.sl S50) r2.2.2.2]) [S29,(.sl S50)] rfl rfl (by kernel_rfl)
  refine run_loop rfl (run_loopO hl2 (fun s2=>[(4,.ptr 5020 [] 0),(6,.ptr 5221 [] 0),(46,.v (.sl S66) x1),(47,vi ((length x1:Nat):Int)),(48,vi s2.1)]) (fun s2=>[(1064,.row 78 S78 []),(1065,.row 4 .bool []),(1128,.row 78 S78 s2.2.2.1),(1129,.row 4 .bool s2.2.2.2.1),(1130,.row 50 S50 s2.2.2.2.2),(5020,.var 29 (.st (.prod (.int .i64) (.prod .ref (.prod .ref (.nl S93))))) (0,(1064,(1065,())))),(5221,.var 98 O98 ((s2.2.1.1.1,(1128,(1129,s2.2.1.1.2.2.2))),1130))]) rfl rfl (fun s2 o2 hF1 ih2 hr2=>?_))
  unfold F_cluster_Run_b2 at hF1
  refine run_again (sq rfl (rg [(4,.ptr 5020 [] 0),(6,.ptr 5221 [] 0),(46,.v (.sl S66) x1),(47,vi ((length x1:Nat):Int)),(48,vi s2.1),(49,vb (decide (s2.1 < ((length x1:Nat):Int))))] [(1064,.row 78 S78 []),(1065,.row 4 .bool []),(1128,.row 78 S78 s2.2.2.1),(1129,.row 4 .bool s2.2.2.2.1),(1130,.row 50 S50 s2.2.2.2.2),(5020,.var 29 (.st (.prod (.int .i64) (.prod .ref (.prod .ref (.nl S93))))) (0,(1064,(1065,())))),(5221,.var 98 O98 ((s2.2.1.1.1,(1128,(1129,s2.2.1.1.2.2.2))),1130))] [] [] 5222 rfl (by kernel_rfl) c0 (sq rfl ?_)))
  refine run_if rfl rfl (fun h5=>?_) (fun h5=>?_)
  ·replace hF1:=ift h5 hF1
   refine sk rfl (sq rfl (bk rfl (sq rfl ?_)))
   obtain ⟨h6,hF1⟩:=ifg hF1
   refine rg [(4,.ptr 5020 [] 0),(6,.ptr 5221 [] 0),(10,.ptr 5262 [] 0),(46,.v (.sl S66) x1),(47,vi ((length x1:Nat):Int)),(48,vi s2.1)] [(1064,.row 78 S78 []),(1065,.row 4 .bool []),(1128,.row 78 S78 s2.2.2.1),(1129,.row 4 .bool s2.2.2.2.1),(1130,.row 50 S50 s2.2.2.2.2),(5020,.var 29 (.st (.prod (.int .i64) (.prod .ref (.prod .ref (.nl S93))))) (0,(1064,(1065,())))),(5221,.var 98 O98 ((s2.2.1.1.1,(1128,(1129,s2.2.1.1.2.2.2))),1130)),(5262,.var 66 S66 (getD x1 (toNat s2.1) S66.dflt))] [] [] 5222 rfl (by kernel_rfl) (cc h6 c0) ?_
   obtain ⟨t3,h7,hF1⟩:=obd hF1
   refine rg [(4,.ptr 5020 [] 0),(6,.ptr 5221 [] 0),(46,.v (.sl S66) x1),(47,vi ((length x1:Nat):Int)),(48,vi s2.1)] [(1064,.row 78 S78 []),(1065,.row 4 .bool []),(5020,.var 29 (.st (.prod (.int .i64) (.prod .ref (.prod .ref (.nl S93))))) (0,(1064,(1065,())))),(5221,.var 98 O98 ((t3.1.1,(6303,(6304,t3.1.2.2.2))),6305)),(6303,.row 78 S78 t3.1.2.1),(6304,.row 4 .bool t3.1.2.2.1),(6305,.row 50 S50 t3.2)] [(2,⟨[.v .unit,.v S66],.tup [],some ([5221,1128,1129,1130],[(0,.var 98 O98 ((t3.1.1,(1000,(1001,t3.1.2.2.2))),1002)),(1000,.row 78 S78 t3.1.2.1),(1001,.row 4 .bool t3.1.2.2.1),(1002,.row 50 S50 t3.2)])⟩)] [] 5263 rfl (by kernel_rfl) (cc (W_cluster_run_step h7) c0) (run_renF (ρ':=[(4,.ptr 5020 [] 0),(6,.ptr 5221 [] 0),(46,.v (.sl S66) x1),(47,vi ((length x1:Nat):Int)),(48,vi s2.1)]) (H':=[(1128,.row 78 S78 t3.1.2.1),(1064,.row 78 S78 []),(1065,.row 4 .bool []),(5020,.var 29 (.st (.prod (.int .i64) (.prod .ref (.prod .ref (.nl S93))))) (0,(1064,(1065,())))),(5221,.var 98 O98 ((t3.1.1,(1128,(6304,t3.1.2.2.2))),6305)),(6304,.row 4 .bool t3.1.2.2.1),(6305,.row 50 S50 t3.2)]) 6303 1128 rfl (by kernel_rfl) rfl rfl (by kernel_rfl) rfl (run_renF (ρ':=[(4,.ptr 5020 [] 0),(6,.ptr 5221 [] 0),(46,.v (.sl S66) x1),(47,vi ((length x1:Nat):Int)),(48,vi s2.1)]) (H':=[(1129,.row 4 .bool t3.1.2.2.1),(1128,.row 78 S78 t3.1.2.1),(1064,.row 78 S78 []),(1065,.row 4 .bool []),(5020,.var 29 (.st (.prod (.int .i64) (.prod .ref (.prod .ref (.nl S93))))) (0,(1064,(1065,())))),(5221,.var 98 O98 ((t3.1.1,(1128,(1129,t3.1.2.2.2))),6305)),(6305,.row 50 S50 t3.2)]) 6304 1129 rfl (by kernel_rfl) rfl rfl (by kernel_rfl) rfl (run_renF (ρ':=[(4,.ptr 5020 [] 0),(6,.ptr 5221 [] 0),(46,.v (.sl S66) x1),(47,vi ((length x1:Nat):Int)),(48,vi s2.1)]) (H':=[(1130,.row 50 S50 t3.2),(1129,.row 4 .bool t3.1.2.2.1),(1128,.row 78 S78 t3.1.2.1),(1064,.row 78 S78 []),(1065,.row 4 .bool []),(5020,.var 29 (.st (.prod (.int .i64) (.prod .ref (.prod .ref (.nl S93))))) (0,(1064,(1065,())))),(5221,.var 98 O98 ((t3.1.1,(1128,(1129,t3.1.2.2.2))),1130))]) 6305 1130 rfl (by kernel_rfl) rfl rfl (by kernel_rfl) rfl (eb (rg [(4,.ptr 5020 [] 0),(6,.ptr 5221 [] 0),(46,.v (.sl S66) x1),(47,vi ((length x1:Nat):Int)),(48,vi (wrap .i64 (s2.1 + 1)))] [(1064,.row 78 S78 []),(1065,.row 4 .bool []),(1128,.row 78 S78 t3.1.2.1),(1129,.row 4 .bool t3.1.2.2.1),(1130,.row 50 S50 t3.2),(5020,.var 29 (.st (.prod (.int .i64) (.prod .ref (.prod .ref (.nl S93))))) (0,(1064,(1065,())))),(5221,.var 98 O98 ((t3.1.1,(1128,(1129,t3.1.2.2.2))),1130))] [] [] 5222 rfl (by kernel_rfl) c0 ?_)))))
   exact ih2 _ (inj hF1).symm
  ·replace hF1:=ifn h5 hF1
   refine run_exit rfl rfl (tm (ρ':=[(4,.ptr 5020 [] 0),(6,.ptr 5221 [] 0)]) (H':=[(1064,.row 78 S78 []),(1065,.row 4 .bool []),(1128,.row 78 S78 s2.2.2.1),(1129,.row 4 .bool s2.2.2.2.1),(1130,.row 50 S50 s2.2.2.2.2),(5020,.var 29 (.st (.prod (.int .i64) (.prod .ref (.prod .ref (.nl S93))))) (0,(1064,(1065,())))),(5221,.var 98 O98 ((s2.2.1.1.1,(1128,(1129,s2.2.1.1.2.2.2))),1130))]) (by kernel_rfl) (by kernel_rfl) rfl ?_)
   exact J2_0 _ (inrI hr2 hF1).symm
 refine run_loop rfl (run_loopO hl1 (fun s1=>[(1,.v (.sl S66) x1),(4,.ptr 5020 [] 0),(6,.ptr 5221 [] 0),(23,.v (.sl S78) x0.2.1),(24,vi ((length x0.2.1:Nat):Int)),(25,vi s1.1)]) (fun s1=>[(1064,.row 78 S78 []),(1065,.row 4 .bool []),(1128,.row 78 S78 s1.2),(1129,.row 4 .bool t1),(1130,.row 50 S50 []),(5020,.var 29 (.st (.prod (.int .i64) (.prod .ref (.prod .ref (.nl S93))))) (0,(1064,(1065,())))),(5221,.var 98 O98 ((x0.1,(1128,(1129,t2))),1130))]) rfl rfl (fun s1 o1 hF1 ih1 hr1=>?_))
 unfold F_cluster_Run_b1 at hF1
 refine run_again (sq rfl (rg [(1,.v (.sl S66) x1),(4,.ptr 5020 [] 0),(6,.ptr 5221 [] 0),(23,.v (.sl S78) x0.2.1),(24,vi ((length x0.2.1:Nat):Int)),(25,vi s1.1),(26,vb (decide (s1.1 < ((length x0.2.1:Nat):Int))))] [(1064,.row 78 S78 []),(1065,.row 4 .bool []),(1128,.row 78 S78 s1.2),(1129,.row 4 .bool t1),(1130,.row 50 S50 []),(5020,.var 29 (.st (.prod (.int .i64) (.prod .ref (.prod .ref (.nl S93))))) (0,(1064,(1065,())))),(5221,.var 98 O98 ((x0.1,(1128,(1129,t2))),1130))] [] [] 5222 rfl (by kernel_rfl) c0 (sq rfl ?_)))
 refine run_if rfl rfl (fun h8=>?_) (fun h8=>?_)
 ·replace hF1:=ift h8 hF1
  refine sk rfl (sq rfl (bk rfl (sq rfl ?_)))
  obtain ⟨h9,hF1⟩:=ifg hF1
  refine rg [(1,.v (.sl S66) x1),(4,.ptr 5020 [] 0),(6,.ptr 5221 [] 0),(8,.ptr 5262 [] 0),(23,.v (.sl S78) x0.2.1),(24,vi ((length x0.2.1:Nat):Int)),(25,vi s1.1)] [(1064,.row 78 S78 []),(1065,.row 4 .bool []),(1128,.row 78 S78 s1.2),(1129,.row 4 .bool t1),(1130,.row 50 S50 []),(5020,.var 29 (.st (.prod (.int .i64) (.prod .ref (.prod .ref (.nl S93))))) (0,(1064,(1065,())))),(5221,.var 98 O98 ((x0.1,(1128,(1129,t2))),1130)),(5262,.var 78 S78 (getD x0.2.1 (toNat s1.1) S78.dflt))] [] [] 5222 rfl (by kernel_rfl) (cc h9 c0) (sq rfl ?_)
  obtain ⟨t4,h10,hF1⟩:=obd hF1
  refine rg [(1,.v (.sl S66) x1),(4,.ptr 5020 [] 0),(6,.ptr 5221 [] 0),(8,.ptr 5262 [] 0),(23,.v (.sl S78) x0.2.1),(24,vi ((length x0.2.1:Nat):Int)),(25,vi s1.1)] [(1064,.row 78 S78 []),(1065,.row 4 .bool []),(1128,.row 78 S78 s1.2),(1129,.row 4 .bool t1),(1130,.row 50 S50 []),(5020,.var 29 (.st (.prod (.int .i64) (.prod .ref (.prod .ref (.nl S93))))) (0,(1064,(1065,())))),(5221,.var 98 O98 ((x0.1,(1128,(1129,t2))),1130)),(5262,.var 78 S78 ((getD x0.2.1 (toNat s1.1) S78.dflt).1,(((getD x0.2.1 (toNat s1.1) S78.dflt).2).1,((((getD x0.2.1 (toNat s1.1) S78.dflt).2).2).1,(((((getD x0.2.1 (toNat s1.1) S78.dflt).2).2).2).1,((((((getD x0.2.1 (toNat s1.1) S78.dflt).2).2).2).2).1,(((((((getD x0.2.1 (toNat s1.1) S78.dflt).2).2).2).2).2).1,((((((((getD x0.2.1 (toNat s1.1) S78.dflt).2).2).2).2).2).2).1,(t4,((((((((getD x0.2.1 (toNat s1.1) S78.dflt).2).2).2).2).2).2).2).2)))))))))] [(2,⟨[.v (.sl S44)],.v (.sl S44) t4,none⟩)] [] 5263 rfl (by kernel_rfl) (cc (show Pure Tryz.prog 40 [.v (.sl S44) (((((((((getD x0.2.1 (toNat s1.1) S78.dflt).2).2).2).2).2).2).2).1)] (.v (.sl S44) t4) from pure_of_mut rfl (W_slices_Clone_api_Kept_api_Kept h10)) c0) ?_
  obtain ⟨h11,hF1⟩:=ifg hF1
  refine rG [(1,.v (.sl S66) x1),(4,.ptr 5020 [] 0),(6,.ptr 5221 [] 0),(23,.v (.sl S78) x0.2.1),(24,vi ((length x0.2.1:Nat):Int)),(25,vi s1.1)] [(1064,.row 78 S78 []),(1065,.row 4 .bool []),(1129,.row 4 .bool t1),(1130,.row 50 S50 []),(5020,.var 29 (.st (.prod (.int .i64) (.prod .ref (.prod .ref (.nl S93))))) (0,(1064,(1065,())))),(5221,.var 98 O98 ((x0.1,(5423,(1129,t2))),1130)),(5423,.row 78 S78 (s1.2++[((getD x0.2.1 (toNat s1.1) S78.dflt).1,(((getD x0.2.1 (toNat s1.1) S78.dflt).2).1,((((getD x0.2.1 (toNat s1.1) S78.dflt).2).2).1,(((((getD x0.2.1 (toNat s1.1) S78.dflt).2).2).2).1,((((((getD x0.2.1 (toNat s1.1) S78.dflt).2).2).2).2).1,(((((((getD x0.2.1 (toNat s1.1) S78.dflt).2).2).2).2).2).1,((((((((getD x0.2.1 (toNat s1.1) S78.dflt).2).2).2).2).2).2).1,(t4,((((((((getD x0.2.1 (toNat s1.1) S78.dflt).2).2).2).2).2).2).2).2))))))))]))] [] [] 5263 rfl rfl (by kernel_rfl) (cc h11.1 (cc h11.2 (cc (show (.row 1128:AVal)=(.row 1128) from rfl) c0))) (run_renF (ρ':=[(1,.v (.sl S66) x1),(4,.ptr 5020 [] 0),(6,.ptr 5221 [] 0),(23,.v (.sl S78) x0.2.1),(24,vi ((length x0.2.1:Nat):Int)),(25,vi s1.1)]) (H':=[(1128,.row 78 S78 (s1.2++[((getD x0.2.1 (toNat s1.1) S78.dflt).1,(((getD x0.2.1 (toNat s1.1) S78.dflt).2).1,((((getD x0.2.1 (toNat s1.1) S78.dflt).2).2).1,(((((getD x0.2.1 (toNat s1.1) S78.dflt).2).2).2).1,((((((getD x0.2.1 (toNat s1.1) S78.dflt).2).2).2).2).1,(((((((getD x0.2.1 (toNat s1.1) S78.dflt).2).2).2).2).2).1,((((((((getD x0.2.1 (toNat s1.1) S78.dflt).2).2).2).2).2).2).1,(t4,((((((((getD x0.2.1 (toNat s1.1) S78.dflt).2).2).2).2).2).2).2).2))))))))])),(1064,.row 78 S78 []),(1065,.row 4 .bool []),(1129,.row 4 .bool t1),(1130,.row 50 S50 []),(5020,.var 29 (.st (.prod (.int .i64) (.prod .ref (.prod .ref (.nl S93))))) (0,(1064,(1065,())))),(5221,.var 98 O98 ((x0.1,(1128,(1129,t2))),1130))]) 5423 1128 rfl (by kernel_rfl) rfl rfl (by kernel_rfl) rfl (eb (rg [(1,.v (.sl S66) x1),(4,.ptr 5020 [] 0),(6,.ptr 5221 [] 0),(23,.v (.sl S78) x0.2.1),(24,vi ((length x0.2.1:Nat):Int)),(25,vi (wrap .i64 (s1.1 + 1)))] [(1064,.row 78 S78 []),(1065,.row 4 .bool []),(1128,.row 78 S78 (s1.2++[((getD x0.2.1 (toNat s1.1) S78.dflt).1,(((getD x0.2.1 (toNat s1.1) S78.dflt).2).1,((((getD x0.2.1 (toNat s1.1) S78.dflt).2).2).1,(((((getD x0.2.1 (toNat s1.1) S78.dflt).2).2).2).1,((((((getD x0.2.1 (toNat s1.1) S78.dflt).2).2).2).2).1,(((((((getD x0.2.1 (toNat s1.1) S78.dflt).2).2).2).2).2).1,((((((((getD x0.2.1 (toNat s1.1) S78.dflt).2).2).2).2).2).2).1,(t4,((((((((getD x0.2.1 (toNat s1.1) S78.dflt).2).2).2).2).2).2).2).2))))))))])),(1129,.row 4 .bool t1),(1130,.row 50 S50 []),(5020,.var 29 (.st (.prod (.int .i64) (.prod .ref (.prod .ref (.nl S93))))) (0,(1064,(1065,())))),(5221,.var 98 O98 ((x0.1,(1128,(1129,t2))),1130))] [] [] 5222 rfl (by kernel_rfl) c0 ?_)))
  exact ih1 _ (inj hF1).symm
 ·replace hF1:=ifn h8 hF1
  refine run_exit rfl rfl (tm (ρ':=[(1,.v (.sl S66) x1),(4,.ptr 5020 [] 0),(6,.ptr 5221 [] 0)]) (H':=[(1064,.row 78 S78 []),(1065,.row 4 .bool []),(1128,.row 78 S78 s1.2),(1129,.row 4 .bool t1),(1130,.row 50 S50 []),(5020,.var 29 (.st (.prod (.int .i64) (.prod .ref (.prod .ref (.nl S93))))) (0,(1064,(1065,())))),(5221,.var 98 O98 ((x0.1,(1128,(1129,t2))),1130))]) (by kernel_rfl) (by kernel_rfl) rfl ?_)
  exact J1_0 _ (inrI hr1 hF1).symm
end Go.Proofs.YtjcbamenfaoffaaGreatDoor
set_option maxRecDepth 100000
set_option linter.unusedVariables false
namespace Go.Proofs.YtjcbamenfaoffaaGreatDoor
open Go.RowKit
noncomputable def F_congresslaw15_fixed:Option Bool :=
 (F_cluster_Begin 1 3).bind fun t1=>((F_cluster_Begin 9 3).bind fun t2=>((F_cluster_Run t1.1 [(0,(0,(0,(0,(0,(0,replicate 3 (replicate 2 (0,(0,(0,(0,(0,[])))))))))))),(0,(0,(0,(0,(0,(0,replicate 3 (replicate 2 (0,(0,(0,(0,(0,[])))))))))))),(0,(0,(0,(0,(0,(0,replicate 3 (replicate 2 (0,(0,(0,(0,(0,[]))))))))))))]).bind fun t3=>((show Option Bool from if (t1.2)=true then if (!t2.2)=true then if (((length t3.1.2.1:Nat):Int) == 1)=true then if (((length t3.2:Nat):Int) == 3)=true then if 0≤(2:Int)∧(2:Int) < ((length t3.2:Nat):Int) then (if (((((((((getD t3.2 (toNat 2) S50.dflt).2).2).2).2).1).2).1) == 3)=true then if 0≤(2:Int)∧(2:Int) < ((length t3.2:Nat):Int) then (some (!(((((getD t3.2 (toNat 2) S50.dflt).2).2).2).1))) else none else some false) else none else some false else some false else some false else some false).bind (fun r1=>some r1))))
theorem W_congresslaw15_fixed {y:Bool} (hF0:F_congresslaw15_fixed=some y):Pure Tryz.prog 11 [] (vb y):=by
 unfold F_congresslaw15_fixed at hF0
 refine pure_of_run @Tryz.call11 @Tryz.func11 rfl rfl fun w M ho=>?_
 refine sq rfl (rg [] [] [] [] 5000 rfl (by kernel_rfl) c0 (sq rfl ?_))
 obtain ⟨t1,h1,hF0⟩:=obd hF0
 refine rg [(1,.ptr 5080 [] 0),(2,vb t1.2)] [(5080,.var 29 S29 t1.1)] [(0,⟨[.v (.int .i64),.v (.int .i64)],.tup [.v S29 t1.1,vb t1.2],none⟩)] [] 5000 rfl (by kernel_rfl) (cc (W_cluster_Begin h1) c0) (sq rfl ?_)
 obtain ⟨t2,h2,hF0⟩:=obd hF0
 refine rg [(1,.ptr 5080 [] 0),(2,vb t1.2),(4,vb t2.2)] [(5080,.var 29 S29 t1.1)] [(0,⟨[.v (.int .i64),.v (.int .i64)],.tup [.v S29 t2.1,vb t2.2],none⟩)] [] 5081 rfl (by kernel_rfl) (cc (W_cluster_Begin h2) c0) (sq rfl ?_)
 obtain ⟨t3,h3,hF0⟩:=obd hF0
 refine rg [(1,.ptr 5080 [] 0),(2,vb t1.2),(4,vb t2.2),(5,.v (.sl S50) t3.2)] [(5080,.var 29 S29 t3.1)] [(4,⟨[],.v (.sl S66) [(0,(0,(0,(0,(0,(0,replicate 3 (replicate 2 (0,(0,(0,(0,(0,[])))))))))))),(0,(0,(0,(0,(0,(0,replicate 3 (replicate 2 (0,(0,(0,(0,(0,[])))))))))))),(0,(0,(0,(0,(0,(0,replicate 3 (replicate 2 (0,(0,(0,(0,(0,[]))))))))))))],none⟩),(5,⟨[.v S29,.v (.sl S66)],.tup [.v S29 t3.1,.v (.sl S50) t3.2],none⟩)] [] 5081 rfl (by kernel_rfl) (cc (W_cluster_Run h3) c0) (sq rfl ?_)
 obtain ⟨r1,hF1,hF0⟩:=obd hF0
 refine run_cut (fun r1'=>r1=r1') (fun r1=>[(0,vb r1)]) (fun r1=>[]) (fun r1' h4=>?_) (fun J1_0=>?_)
 ·subst h4
  obtain rfl:=inj hF0
  exact ret_pure (q:=[vb r1]) [.bool] rfl rfl (by kernel_rfl)
 rcases Bool.eq_false_or_eq_true (t1.2) with h5 | h5
 ·replace hF1:=ift h5 hF1
  rcases Bool.eq_false_or_eq_true (!t2.2) with h6 | h6
  ·replace hF1:=ift h6 hF1
   rcases Bool.eq_false_or_eq_true (((length t3.1.2.1:Nat):Int) == 1) with h7 | h7
   ·replace hF1:=ift h7 hF1
    rcases Bool.eq_false_or_eq_true (((length t3.2:Nat):Int) == 3) with h8 | h8
    ·replace hF1:=ift h8 hF1
     obtain ⟨h9,hF1⟩:=ifg hF1
     rcases Bool.eq_false_or_eq_true (((((((((getD t3.2 (toNat 2) S50.dflt).2).2).2).2).1).2).1) == 3) with h10 | h10
     ·replace hF1:=ift h10 hF1
      obtain ⟨h11,hF1⟩:=ifg hF1
      refine rg [(0,vb (!(((((getD t3.2 (toNat 2) S50.dflt).2).2).2).1)))] [] [] [(1,true),(5,true),(11,true),(16,true),(25,true)] 5081 rfl (by kernel_rfl) (cc h5 (cc h6 (cc h7 (cc h8 (cc h9 (cc h10 (cc h11 c0))))))) ?_
      exact J1_0 _ (inj hF1).symm
     ·replace hF1:=ifn h10 hF1
      refine rg [(0,vb false)] [] [] [(1,true),(5,true),(11,true),(16,true),(25,false)] 5081 rfl (by kernel_rfl) (cc h5 (cc h6 (cc h7 (cc h8 (cc h9 (cc h10 c0)))))) ?_
      exact J1_0 _ (inj hF1).symm
    ·replace hF1:=ifn h8 hF1
     refine rg [(0,vb false)] [] [] [(1,true),(5,true),(11,true),(16,false)] 5081 rfl (by kernel_rfl) (cc h5 (cc h6 (cc h7 (cc h8 c0)))) ?_
     exact J1_0 _ (inj hF1).symm
   ·replace hF1:=ifn h7 hF1
    refine rg [(0,vb false)] [] [] [(1,true),(5,true),(11,false)] 5081 rfl (by kernel_rfl) (cc h5 (cc h6 (cc h7 c0))) ?_
    exact J1_0 _ (inj hF1).symm
  ·replace hF1:=ifn h6 hF1
   refine rg [(0,vb false)] [] [] [(1,true),(5,false)] 5081 rfl (by kernel_rfl) (cc h5 (cc h6 c0)) ?_
   exact J1_0 _ (inj hF1).symm
 ·replace hF1:=ifn h5 hF1
  refine rg [(0,vb false)] [] [] [(1,false)] 5081 rfl (by kernel_rfl) (cc h5 c0) ?_
  exact J1_0 _ (inj hF1).symm
abbrev S24:Sh:=(.st (.prod (.int .i64) (.prod (.int .i64) (.sl S66))))
noncomputable def F_congresslaw15_played (x0:S24.ty):Option (S29.ty × (List S50.ty) × Bool) :=
 (F_cluster_Begin x0.1 x0.2.1).bind fun t1=>(if (!t1.2)=true then some (t1.1,[],false) else if ((0:Int)≤mn ((length x0.2.2:Nat):Int) 150∧0≤toNat (mn ((length x0.2.2:Nat):Int) 150)∧toNat (mn ((length x0.2.2:Nat):Int) 150)≤length x0.2.2) then (F_cluster_Run t1.1 (drop 0 (take (toNat (mn ((length x0.2.2:Nat):Int) 150)) x0.2.2))).bind fun t2=>(some (t2.1,t2.2,true)) else none)
theorem W_congresslaw15_played {x0:S24.ty} {y:(S29.ty × (List S50.ty) × Bool)} (hF0:F_congresslaw15_played x0=some y):Pure Tryz.prog 10 [.v S24 x0] (.tup [.v S29 y.1,.v (.sl S50) y.2.1,vb y.2.2]):=by
 unfold F_congresslaw15_played at hF0
 refine pure_of_run @Tryz.call10 @Tryz.func10 rfl rfl fun w M ho=>?_
 refine sq rfl (rg [(1,.ptr 5000 [] 0),(2,.ptr 5020 [] 0)] [(5000,.var 24 S24 x0),(5020,.var 29 Z29 (0,((),((),()))))] [] [] 5000 rfl (by kernel_rfl) c0 (run_nilF (H':=[(1000,.row 78 S78 []),(5000,.var 24 S24 x0),(5020,.var 29 (.st (.prod (.int .i64) (.prod .ref (.prod (.nl .bool) (.nl S93))))) (0,(1000,((),()))))]) 5020 1000 [.u,.r,.l] 78 S78 rfl rfl rfl rfl rfl rfl (by kernel_rfl) rfl (run_nilF (H':=[(1001,.row 4 .bool []),(1000,.row 78 S78 []),(5000,.var 24 S24 x0),(5020,.var 29 (.st (.prod (.int .i64) (.prod .ref (.prod .ref (.nl S93))))) (0,(1000,(1001,()))))]) 5020 1001 [.u,.r,.r,.l] 4 .bool rfl rfl rfl rfl rfl rfl (by kernel_rfl) rfl (sq rfl ?_))))
 obtain ⟨t1,h1,hF0⟩:=obd hF0
 refine rg [(1,.ptr 5000 [] 0),(2,.ptr 5020 [] 0),(5,.ptr 5181 [] 0),(6,vb t1.2)] [(1000,.row 78 S78 []),(1001,.row 4 .bool []),(5000,.var 24 S24 x0),(5020,.var 29 (.st (.prod (.int .i64) (.prod .ref (.prod .ref (.nl S93))))) (0,(1000,(1001,())))),(5181,.var 29 S29 t1.1)] [(4,⟨[.v (.int .i64),.v (.int .i64)],.tup [.v S29 t1.1,vb t1.2],none⟩)] [] 5021 rfl (by kernel_rfl) (cc (W_cluster_Begin h1) c0) (sq rfl (sq rfl (rg [(1,.ptr 5000 [] 0),(2,.ptr 5020 [] 0),(5,.ptr 5181 [] 0),(18,vb (!t1.2))] [(1000,.row 78 S78 []),(1001,.row 4 .bool []),(5000,.var 24 S24 x0),(5020,.var 29 (.st (.prod (.int .i64) (.prod .ref (.prod .ref (.nl S93))))) (0,(1000,(1001,())))),(5181,.var 29 S29 t1.1)] [] [] 5182 rfl (by kernel_rfl) c0 ?_)))
 refine run_if rfl rfl (fun h2=>?_) (fun h2=>?_)
 ·replace hF0:=ift h2 hF0
  refine sq rfl (rg [(2,.ptr 5020 [] 0),(3,.v (.nl .any) ()),(4,vb false)] [(5020,.var 29 S29 t1.1)] [] [] 5182 rfl (by kernel_rfl) c0 ?_)
  obtain rfl:=inj hF0
  exact ret_pure (q:=[.v S29 t1.1,.v (.sl S50) [],vb false]) [S29,(.sl S50),.bool] rfl rfl (by kernel_rfl)
 ·replace hF0:=ifn h2 hF0
  refine sk rfl (sq rfl ?_)
  obtain ⟨h3,hF0⟩:=ifg hF0
  obtain ⟨t2,h4,hF0⟩:=obd hF0
  refine rG [(2,.ptr 5020 [] 0),(7,.ptr 5422 [] 0),(8,.v (.sl S50) t2.2)] [(1000,.row 78 S78 []),(1001,.row 4 .bool []),(5020,.var 29 (.st (.prod (.int .i64) (.prod .ref (.prod .ref (.nl S93))))) (0,(1000,(1001,())))),(5422,.var 29 S29 t2.1)] [(8,⟨[.v S29,.v (.sl S66)],.tup [.v S29 t2.1,.v (.sl S50) t2.2],none⟩)] [] 5182 rfl rfl (by kernel_rfl) (cc h3.1 (cc h3.2.1 (cc h3.2.2 (cc (W_cluster_Run h4) (cc (show (.v S29 t1.1:AVal)=(.v S29 t1.1) from rfl) (cc (show (.v (.sl S66) x0.2.2:AVal)=(.v (.sl S66) x0.2.2) from rfl) (cc (show (.v (.sl S66) x0.2.2:AVal)=(.v (.sl S66) x0.2.2) from rfl) c0))))))) (sq rfl (rg [(2,.ptr 5020 [] 0),(3,.v (.sl S50) t2.2),(4,vb true)] [(5020,.var 29 S29 t2.1)] [] [] 5423 rfl (by kernel_rfl) c0 ?_))
  obtain rfl:=inj hF0
  exact ret_pure (q:=[.v S29 t2.1,.v (.sl S50) t2.2,vb true]) [S29,(.sl S50),.bool] rfl rfl (by kernel_rfl)
end Go.Proofs.YtjcbamenfaoffaaGreatDoor
