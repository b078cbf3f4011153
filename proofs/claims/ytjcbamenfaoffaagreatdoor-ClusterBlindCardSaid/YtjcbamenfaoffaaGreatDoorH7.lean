/- Laws of my own that the statement leans on; part H7. -/
import Derived.Test.YtjcbamenfaoffaaGreatDoorH6
set_option linter.unusedVariables false
set_option linter.unusedSimpArgs false
open List (length replicate getD drop take)
open Option.some (inj injEq)
open Int (toNat)
open Go.IntKind (wrap)
set_option maxRecDepth 100000
namespace Go.Proofs.YtjcbamenfaoffaaGreatDoor
open Go.RowKit
abbrev Z78:Sh:=(.st (.prod (.int .i64) (.prod (.int .i64) (.prod (.int .u32) (.prod S72 (.prod S36 (.prod (.arr 8 (.int .u32)) (.prod (.arr 8 (.int .u32)) (.prod (.nl S44) (.prod S36 (.prod (.arr 8 (.int .u32)) (.prod (.arr 8 (.int .u32)) (.prod .bool (.prod (.arr 8 S75) (.int .u32)))))))))))))))
noncomputable def F_core_Start (x0:Int) (x1:Int) (x2:Int):Option (S78.ty×Bool) :=
 (show Option Bool from if (decide (x0<0))=true then some true else if (decide (x0≥8))=true then some true else if (x1==0)=true then some true else if (decide (x2<1))=true then some true else some (decide (x2>1000))).bind (fun r1=>if (r1)=true then some ((0,0,0,(0,replicate 8 0,replicate 8 0),(0,0,0),replicate 8 0,replicate 8 0,[],(0,0,0),replicate 8 0,replicate 8 0,false,replicate 8 (0,(0,0,0),(0,0,0),replicate 8 0,false),0),false) else if 0≤x0∧x0<((8:Nat):Int) then (some ((x0,x2,x1,(0,replicate 8 0,replicate 8 0),(0,wrap .u32 x0,x1),List.set (replicate 8 0) (toNat x0) x1,replicate 8 0,[],(0,wrap .u32 x0,x1),List.set (replicate 8 0) (toNat x0) x1,replicate 8 0,false,replicate 8 (0,(0,0,0),(0,0,0),replicate 8 0,false),0),true)) else none)
theorem W_core_Start {x0:Int} {x1:Int} {x2:Int} {y:(S78.ty×Bool)} (F0:F_core_Start x0 x1 x2=some y):Pure Tryz.prog 29 [vi x0,.v (.int .u32) x1,vi x2] (.tup [.v S78 y.1,vb y.2]):=by
 unfold F_core_Start at F0
 refine pure_of_run @Tryz.call29 @Tryz.func29 rfl rfl fun w M ho=>?_
 refine sq rfl (rg [(0,vi x0),(1,.v (.int .u32) x1),(2,vi x2),(6,.ptr 5000 [] 0)] [(5000,.var 78 Z78 (0,0,0,(0,replicate 8 0,replicate 8 0),(0,0,0),replicate 8 0,replicate 8 0,(),(0,0,0),replicate 8 0,replicate 8 0,false,replicate 8 (0,(0,0,0),(0,0,0),replicate 8 0,false),0))] [] [] 5000 rfl (by kernel_rfl) c0 (sq rfl (sq rfl ?_)))
 obtain ⟨r1,F1,F0⟩:=obd F0
 refine run_cut (fun r1'=>r1=r1') (fun r1=>[(0,vi x0),(1,.v (.int .u32) x1),(2,vi x2),(6,.ptr 5000 [] 0),(26,vb r1)]) (fun r1=>[(5000,.var 78 Z78 (0,0,0,(0,replicate 8 0,replicate 8 0),(0,0,0),replicate 8 0,replicate 8 0,(),(0,0,0),replicate 8 0,replicate 8 0,false,replicate 8 (0,(0,0,0),(0,0,0),replicate 8 0,false),0))]) (fun r1' h1=>?_) (fun J1_0=>?_)
 ·subst h1
  refine run_if rfl rfl (fun h2=>?_) (fun h2=>?_)
  ·replace F0:=ift h2 F0
   refine sq rfl (rg [(6,.ptr 5000 [] 0),(7,vb false)] [(5000,.var 78 Z78 (0,0,0,(0,replicate 8 0,replicate 8 0),(0,0,0),replicate 8 0,replicate 8 0,(),(0,0,0),replicate 8 0,replicate 8 0,false,replicate 8 (0,(0,0,0),(0,0,0),replicate 8 0,false),0))] [] [] 5001 rfl (by kernel_rfl) c0 ?_)
   obtain rfl:=inj F0
   exact ret_pure (q:=[.v S78 (0,0,0,(0,replicate 8 0,replicate 8 0),(0,0,0),replicate 8 0,replicate 8 0,[],(0,0,0),replicate 8 0,replicate 8 0,false,replicate 8 (0,(0,0,0),(0,0,0),replicate 8 0,false),0),vb false]) [S78,.bool] rfl rfl (by kernel_rfl)
  ·replace F0:=ifn h2 F0
   refine sk rfl (sq rfl (rg [(0,vi x0),(1,.v (.int .u32) x1),(6,.ptr 5000 [] 0),(8,.ptr 5161 [] 0)] [(5000,.var 78 Z78 (0,0,0,(0,replicate 8 0,replicate 8 0),(0,0,0),replicate 8 0,replicate 8 0,(),(0,0,0),replicate 8 0,replicate 8 0,false,replicate 8 (0,(0,0,0),(0,0,0),replicate 8 0,false),0)),(5161,.var 78 Z78 (x0,x2,x1,(0,replicate 8 0,replicate 8 0),(0,wrap .u32 x0,x1),replicate 8 0,replicate 8 0,(),(0,0,0),replicate 8 0,replicate 8 0,false,replicate 8 (0,(0,0,0),(0,0,0),replicate 8 0,false),0))] [] [] 5001 rfl (by kernel_rfl) c0 (sq rfl ?_)))
   obtain ⟨h3,F0⟩:=ifg F0
   refine rg [(6,.ptr 5000 [] 0),(8,.ptr 5161 [] 0)] [(5000,.var 78 Z78 (0,0,0,(0,replicate 8 0,replicate 8 0),(0,0,0),replicate 8 0,replicate 8 0,(),(0,0,0),replicate 8 0,replicate 8 0,false,replicate 8 (0,(0,0,0),(0,0,0),replicate 8 0,false),0)),(5161,.var 78 Z78 (x0,x2,x1,(0,replicate 8 0,replicate 8 0),(0,wrap .u32 x0,x1),List.set (replicate 8 0) (toNat x0) x1,replicate 8 0,(),(0,0,0),replicate 8 0,replicate 8 0,false,replicate 8 (0,(0,0,0),(0,0,0),replicate 8 0,false),0))] [] [] 5162 rfl (by kernel_rfl) (cc h3 (cc (show offP Z78 [.u,.r,.r,.r,.r,.r,.l,.i (toNat x0)]=(23+toNat x0*1) from offJ (p:=[.u,.r,.r,.r,.r,.r,.l]) (q:=[]) rfl (by kernel_rfl) (by kernel_rfl) (by kernel_rfl)) (cc (oo h3 trivial) c0))) (sq rfl (rg [(6,.ptr 5000 [] 0),(8,.ptr 5161 [] 0)] [(5000,.var 78 Z78 (0,0,0,(0,replicate 8 0,replicate 8 0),(0,0,0),replicate 8 0,replicate 8 0,(),(0,0,0),replicate 8 0,replicate 8 0,false,replicate 8 (0,(0,0,0),(0,0,0),replicate 8 0,false),0)),(5161,.var 78 Z78 (x0,x2,x1,(0,replicate 8 0,replicate 8 0),(0,wrap .u32 x0,x1),List.set (replicate 8 0) (toNat x0) x1,replicate 8 0,(),(0,wrap .u32 x0,x1),List.set (replicate 8 0) (toNat x0) x1,replicate 8 0,false,replicate 8 (0,(0,0,0),(0,0,0),replicate 8 0,false),0))] [] [] 5162 rfl (by kernel_rfl) c0 (sq rfl (rg [(6,.ptr 5000 [] 0),(7,vb true)] [(5000,.var 78 Z78 (x0,x2,x1,(0,replicate 8 0,replicate 8 0),(0,wrap .u32 x0,x1),List.set (replicate 8 0) (toNat x0) x1,replicate 8 0,(),(0,wrap .u32 x0,x1),List.set (replicate 8 0) (toNat x0) x1,replicate 8 0,false,replicate 8 (0,(0,0,0),(0,0,0),replicate 8 0,false),0))] [] [] 5162 rfl (by kernel_rfl) c0 ?_))))
   obtain rfl:=inj F0
   exact ret_pure (q:=[.v S78 (x0,x2,x1,(0,replicate 8 0,replicate 8 0),(0,wrap .u32 x0,x1),List.set (replicate 8 0) (toNat x0) x1,replicate 8 0,[],(0,wrap .u32 x0,x1),List.set (replicate 8 0) (toNat x0) x1,replicate 8 0,false,replicate 8 (0,(0,0,0),(0,0,0),replicate 8 0,false),0),vb true]) [S78,.bool] rfl rfl (by kernel_rfl)
 rcases Bool.eq_false_or_eq_true (decide (x0<0)) with h4|h4
 ·replace F1:=ift h4 F1
  refine rg [(0,vi x0),(1,.v (.int .u32) x1),(2,vi x2),(6,.ptr 5000 [] 0),(26,vb true)] [(5000,.var 78 Z78 (0,0,0,(0,replicate 8 0,replicate 8 0),(0,0,0),replicate 8 0,replicate 8 0,(),(0,0,0),replicate 8 0,replicate 8 0,false,replicate 8 (0,(0,0,0),(0,0,0),replicate 8 0,false),0))] [] [(2,true)] 5001 rfl (by kernel_rfl) (cc h4 c0) ?_
  exact J1_0 _ (inj F1).symm
 ·replace F1:=ifn h4 F1
  rcases Bool.eq_false_or_eq_true (decide (x0≥8)) with h5|h5
  ·replace F1:=ift h5 F1
   refine rg [(0,vi x0),(1,.v (.int .u32) x1),(2,vi x2),(6,.ptr 5000 [] 0),(26,vb true)] [(5000,.var 78 Z78 (0,0,0,(0,replicate 8 0,replicate 8 0),(0,0,0),replicate 8 0,replicate 8 0,(),(0,0,0),replicate 8 0,replicate 8 0,false,replicate 8 (0,(0,0,0),(0,0,0),replicate 8 0,false),0))] [] [(2,false),(6,true)] 5001 rfl (by kernel_rfl) (cc h4 (cc h5 c0)) ?_
   exact J1_0 _ (inj F1).symm
  ·replace F1:=ifn h5 F1
   rcases Bool.eq_false_or_eq_true (x1==0) with h6|h6
   ·replace F1:=ift h6 F1
    refine rg [(0,vi x0),(1,.v (.int .u32) x1),(2,vi x2),(6,.ptr 5000 [] 0),(26,vb true)] [(5000,.var 78 Z78 (0,0,0,(0,replicate 8 0,replicate 8 0),(0,0,0),replicate 8 0,replicate 8 0,(),(0,0,0),replicate 8 0,replicate 8 0,false,replicate 8 (0,(0,0,0),(0,0,0),replicate 8 0,false),0))] [] [(2,false),(6,false),(10,true)] 5001 rfl (by kernel_rfl) (cc h4 (cc h5 (cc h6 c0))) ?_
    exact J1_0 _ (inj F1).symm
   ·replace F1:=ifn h6 F1
    rcases Bool.eq_false_or_eq_true (decide (x2<1)) with h7|h7
    ·replace F1:=ift h7 F1
     refine rg [(0,vi x0),(1,.v (.int .u32) x1),(2,vi x2),(6,.ptr 5000 [] 0),(26,vb true)] [(5000,.var 78 Z78 (0,0,0,(0,replicate 8 0,replicate 8 0),(0,0,0),replicate 8 0,replicate 8 0,(),(0,0,0),replicate 8 0,replicate 8 0,false,replicate 8 (0,(0,0,0),(0,0,0),replicate 8 0,false),0))] [] [(2,false),(6,false),(10,false),(14,true)] 5001 rfl (by kernel_rfl) (cc h4 (cc h5 (cc h6 (cc h7 c0)))) ?_
     exact J1_0 _ (inj F1).symm
    ·replace F1:=ifn h7 F1
     refine rg [(0,vi x0),(1,.v (.int .u32) x1),(2,vi x2),(6,.ptr 5000 [] 0),(26,vb (decide (x2>1000)))] [(5000,.var 78 Z78 (0,0,0,(0,replicate 8 0,replicate 8 0),(0,0,0),replicate 8 0,replicate 8 0,(),(0,0,0),replicate 8 0,replicate 8 0,false,replicate 8 (0,(0,0,0),(0,0,0),replicate 8 0,false),0))] [] [(2,false),(6,false),(10,false),(14,false)] 5001 rfl (by kernel_rfl) (cc h4 (cc h5 (cc h6 (cc h7 c0)))) ?_
     exact J1_0 _ (inj F1).symm
noncomputable def F_core_Gathers (x0:S78.ty):Option Bool :=
 some (!(Sh.eqb S36 x0.2.2.2.2.2.2.2.2.1 x0.2.2.2.2.1))
theorem W_core_Gathers {x0:S78.ty} {y:Bool} (F0:F_core_Gathers x0=some y):Pure Tryz.prog 126 [.v S78 x0] (vb y):=by
 unfold F_core_Gathers at F0
 refine pure_of_run @Tryz.call126 @Tryz.func126 rfl rfl fun w M ho=>?_
 refine sq rfl (rg [(1,.ptr 5000 [] 0)] [(5000,.var 78 S78 x0)] [] [] 5000 rfl (by kernel_rfl) c0 (sq rfl (rg [(2,vb (!(Sh.eqb S36 x0.2.2.2.2.2.2.2.2.1 x0.2.2.2.2.1)))] [] [] [] 5001 rfl (by kernel_rfl) c0 ?_)))
 obtain rfl:=inj F0
 exact ret_pure (q:=[vb (!(Sh.eqb S36 x0.2.2.2.2.2.2.2.2.1 x0.2.2.2.2.1))]) [.bool] rfl rfl (by kernel_rfl)
noncomputable def F_core_fits (x0:S78.ty):Option Bool :=
 (show Option Bool from if (decide (x0.1≥0))=true then if (decide (x0.1<8))=true then some (x0.2.2.1 != 0) else some false else some false).bind (fun r1=>some r1)
theorem W_core_fits {x0:S78.ty} {y:Bool} (F0:F_core_fits x0=some y):Pure Tryz.prog 110 [.v S78 x0] (vb y):=by
 unfold F_core_fits at F0
 refine pure_of_run @Tryz.call110 @Tryz.func110 rfl rfl fun w M ho=>?_
 refine sq rfl (rg [(1,.ptr 5000 [] 0)] [(5000,.var 78 S78 x0)] [] [] 5000 rfl (by kernel_rfl) c0 (sq rfl ?_))
 obtain ⟨r1,F1,F0⟩:=obd F0
 refine run_cut (fun r1'=>r1=r1') (fun r1=>[(2,vb r1)]) (fun r1=>[]) (fun r1' h1=>?_) (fun J1_0=>?_)
 ·subst h1
  obtain rfl:=inj F0
  exact ret_pure (q:=[vb r1]) [.bool] rfl rfl (by kernel_rfl)
 rcases Bool.eq_false_or_eq_true (decide (x0.1≥0)) with h2|h2
 ·replace F1:=ift h2 F1
  rcases Bool.eq_false_or_eq_true (decide (x0.1<8)) with h3|h3
  ·replace F1:=ift h3 F1
   refine rg [(2,vb (x0.2.2.1 != 0))] [] [] [(3,true),(8,true)] 5001 rfl (by kernel_rfl) (cc h2 (cc h3 c0)) ?_
   exact J1_0 _ (inj F1).symm
  ·replace F1:=ifn h3 F1
   refine rg [(2,vb false)] [] [] [(3,true),(8,false)] 5001 rfl (by kernel_rfl) (cc h2 (cc h3 c0)) ?_
   exact J1_0 _ (inj F1).symm
 ·replace F1:=ifn h2 F1
  refine rg [(2,vb false)] [] [] [(3,false)] 5001 rfl (by kernel_rfl) (cc h2 c0) ?_
  exact J1_0 _ (inj F1).symm
abbrev S48:Sh:=(.st (.prod .bool (.prod S44 (.prod S36 (.arr 8 (.int .u32))))))
abbrev S183:Sh:=(.st (.prod S78 (.sl S48)))
abbrev O183:Sh:=(.st (.prod S78 .ref))
noncomputable def F_core_begun (x0:S78.ty):Option S183.ty :=
 (F_slices_Clone_api_Kept_api_Kept x0.2.2.2.2.2.2.2.1).bind fun t1=>(some ((x0.1,x0.2.1,x0.2.2.1,x0.2.2.2.1,x0.2.2.2.2.1,x0.2.2.2.2.2.1,x0.2.2.2.2.2.2.1,t1,x0.2.2.2.2.2.2.2.2),[]))
theorem W_core_begun {x0:S78.ty} {y:S183.ty} (F0:F_core_begun x0=some y):Mut Tryz.prog 109 0 [.v S78 x0] [] (.ptr 0 [] 0) [(3560,.row 48 S48 y.2),(0,.var 183 O183 (y.1,3560))]:=by
 unfold F_core_begun at F0
 refine mut_of_run @Tryz.call109 @Tryz.func109 rfl rfl fun b=>?_
 refine sq rfl (rg [(1,.ptr 5000 [] 0)] [(5000,.var 78 S78 x0)] [] [] 5000 rfl (by kernel_rfl) c0 (sq rfl ?_))
 obtain ⟨t1,h1,F0⟩:=obd F0
 refine rg [(1,.ptr 5000 [] 0)] [(5000,.var 78 S78 (x0.1,x0.2.1,x0.2.2.1,x0.2.2.2.1,x0.2.2.2.2.1,x0.2.2.2.2.2.1,x0.2.2.2.2.2.2.1,t1,x0.2.2.2.2.2.2.2.2))] [(2,⟨[.v (.sl S44)],.v (.sl S44) t1,none⟩)] [] 5001 rfl (by kernel_rfl) (cc (show Pure Tryz.prog 40 [.v (.sl S44) x0.2.2.2.2.2.2.2.1] (.v (.sl S44) t1) from pure_of_mut rfl (W_slices_Clone_api_Kept_api_Kept h1)) c0) (sq rfl (rg [(2,.ptr 5041 [] 0)] [(5041,.var 183 (.st (.prod S78 (.nl S48))) ((x0.1,x0.2.1,x0.2.2.1,x0.2.2.2.1,x0.2.2.2.2.1,x0.2.2.2.2.2.1,x0.2.2.2.2.2.2.1,t1,x0.2.2.2.2.2.2.2.2),()))] [] [] 5001 rfl (by kernel_rfl) c0 (run_nilF (H':=[(1000,.row 48 S48 []),(5041,.var 183 O183 ((x0.1,x0.2.1,x0.2.2.1,x0.2.2.2.1,x0.2.2.2.2.1,x0.2.2.2.2.2.1,x0.2.2.2.2.2.2.1,t1,x0.2.2.2.2.2.2.2.2),1000))]) 5041 1000 [.u,.r] 48 S48 rfl rfl rfl rfl rfl rfl (by kernel_rfl) rfl (run_renV (ρ':=[(2,.ptr 0 [] 0)]) (H':=[(0,.var 183 O183 ((x0.1,x0.2.1,x0.2.2.1,x0.2.2.2.1,x0.2.2.2.2.1,x0.2.2.2.2.2.1,x0.2.2.2.2.2.2.1,t1,x0.2.2.2.2.2.2.2.2),1000)),(1000,.row 48 S48 [])]) 5041 0 rfl (by kernel_rfl) (by kernel_rfl) (by kernel_rfl) rfl (run_renF (ρ':=[(2,.ptr 0 [] 0)]) (H':=[(3560,.row 48 S48 []),(0,.var 183 O183 ((x0.1,x0.2.1,x0.2.2.1,x0.2.2.2.1,x0.2.2.2.2.1,x0.2.2.2.2.2.1,x0.2.2.2.2.2.2.1,t1,x0.2.2.2.2.2.2.2.2),3560))]) 1000 3560 rfl (by kernel_rfl) rfl rfl (by kernel_rfl) rfl ?_)))))
 obtain rfl:=inj F0
 exact ret_mut (q:=[.ptr 0 [] 0]) [none] [3560,0] rfl rfl (by kernel_rfl) rfl (by kernel_rfl)
noncomputable def F_core_under_promise (x0:S183.ty) (x1:S36.ty) (x2:(List Int)):Option S183.ty :=
 some ((x0.1.1,x0.1.2.1,x0.1.2.2.1,x0.1.2.2.2.1,x0.1.2.2.2.2.1,x0.1.2.2.2.2.2.1,x0.1.2.2.2.2.2.2.1,x0.1.2.2.2.2.2.2.2.1,x1,x2,x0.1.2.2.2.2.2.2.1,false,x0.1.2.2.2.2.2.2.2.2.2.2.2.2),x0.2)
theorem W_core_under_promise {x0:S183.ty} {x1:S36.ty} {x2:(List Int)} {y:S183.ty} (F0:F_core_under_promise x0 x1 x2=some y):Mut Tryz.prog 115 2 [.ptr 0 [] 0,.v S36 x1,.v (.arr 8 (.int .u32)) x2] [(0,.var 183 O183 (x0.1,1)),(1,.row 48 S48 x0.2)] (.tup []) [(0,.var 183 O183 (y.1,1000)),(1000,.row 48 S48 y.2)]:=by
 unfold F_core_under_promise at F0
 refine mut_of_run @Tryz.call115 @Tryz.func115 rfl rfl fun b=>?_
 refine run_renF (ρ':=[(0,.ptr 0 [] 0),(1,.v S36 x1),(2,.v (.arr 8 (.int .u32)) x2)]) (H':=[(1000,.row 48 S48 x0.2),(0,.var 183 O183 (x0.1,1000))]) 1 1000 rfl (by kernel_rfl) rfl rfl (by kernel_rfl) rfl (sq rfl (rg [(0,.ptr 0 [] 0),(4,.ptr 5000 [] 0),(5,.ptr 5020 [] 0)] [(0,.var 183 O183 (x0.1,1000)),(1000,.row 48 S48 x0.2),(5000,.var 36 S36 x1),(5020,.var 46 (.arr 8 (.int .u32)) x2)] [] [] 5000 rfl (by kernel_rfl) c0 (rG [] [(0,.var 183 O183 ((x0.1.1,x0.1.2.1,x0.1.2.2.1,x0.1.2.2.2.1,x0.1.2.2.2.2.1,x0.1.2.2.2.2.2.1,x0.1.2.2.2.2.2.2.1,x0.1.2.2.2.2.2.2.2.1,x1,x2,x0.1.2.2.2.2.2.2.1,false,x0.1.2.2.2.2.2.2.2.2.2.2.2.2),1000)),(1000,.row 48 S48 x0.2)] [] [] 5021 rfl rfl (by kernel_rfl) (cc (show (.v (.arr 8 (.int .u32)) x2:AVal)=(.v (.arr 8 (.int .u32)) x2) from rfl) c0) ?_)))
 obtain rfl:=inj F0
 exact fall_mut (q:=[]) [] [0,1000] rfl (by kernel_rfl) rfl (by kernel_rfl)
noncomputable def F_core_under_frames_b1 (x1:(List S44.ty)) (s1:(Int×(List S48.ty))):Option ((Int×(List S48.ty))⊕(List S48.ty)) :=
 if (decide (s1.1<((length x1:Nat):Int)))=true then if 0≤s1.1∧s1.1<((length x1:Nat):Int) then (if apOk (length s1.2+1) 408 then (some (Sum.inl (wrap .i64 (s1.1+1),s1.2++[(false,getD x1 (toNat s1.1) S44.dflt,(0,0,0),replicate 8 0)]))) else none) else none else some (Sum.inr s1.2)
noncomputable def F_core_under_frames (x0:S183.ty) (x1:(List S44.ty)):Option S183.ty :=
 (loopO (F_core_under_frames_b1 x1) (0,x0.2)).bind (fun r1=>some (x0.1,r1))
theorem W_core_under_frames {x0:S183.ty} {x1:(List S44.ty)} {y:S183.ty} (F0:F_core_under_frames x0 x1=some y):Mut Tryz.prog 153 2 [.ptr 0 [] 0,.v (.sl S44) x1] [(0,.var 183 O183 (x0.1,1)),(1,.row 48 S48 x0.2)] (.tup []) [(0,.var 183 O183 (y.1,1000)),(1000,.row 48 S48 y.2)]:=by
 unfold F_core_under_frames at F0
 refine mut_of_run @Tryz.call153 @Tryz.func153 rfl rfl fun b=>?_
 refine run_renF (ρ':=[(0,.ptr 0 [] 0),(1,.v (.sl S44) x1)]) (H':=[(1000,.row 48 S48 x0.2),(0,.var 183 O183 (x0.1,1000))]) 1 1000 rfl (by kernel_rfl) rfl rfl (by kernel_rfl) rfl (sq rfl (rg [(0,.ptr 0 [] 0),(6,.v (.sl S44) x1),(7,vi ((length x1:Nat):Int)),(8,vi 0)] [(0,.var 183 O183 (x0.1,1000)),(1000,.row 48 S48 x0.2)] [] [] 5000 rfl (by kernel_rfl) c0 (bk rfl ?_)))
 obtain ⟨r1,hl1,F0⟩:=obd F0
 refine run_cutx 0 rfl (fun r1'=>r1=r1') (fun r1=>[]) (fun r1=>[(0,.var 183 O183 (x0.1,1000)),(1000,.row 48 S48 r1)]) (fun r1' h1=>?_) (fun J1_0=>?_)
 ·subst h1
  obtain rfl:=inj F0
  exact fall_mut (q:=[]) [] [0,1000] rfl (by kernel_rfl) rfl (by kernel_rfl)
 refine run_loop rfl (run_loopO hl1 (fun s1=>[(0,.ptr 0 [] 0),(6,.v (.sl S44) x1),(7,vi ((length x1:Nat):Int)),(8,vi s1.1)]) (fun s1=>[(0,.var 183 O183 (x0.1,1000)),(1000,.row 48 S48 s1.2)]) rfl rfl (fun s1 o1 F1 ih1 hr1=>?_))
 unfold F_core_under_frames_b1 at F1
 refine run_again (sq rfl (rg [(0,.ptr 0 [] 0),(6,.v (.sl S44) x1),(7,vi ((length x1:Nat):Int)),(8,vi s1.1),(9,vb (decide (s1.1<((length x1:Nat):Int))))] [(0,.var 183 O183 (x0.1,1000)),(1000,.row 48 S48 s1.2)] [] [] 5000 rfl (by kernel_rfl) c0 (sq rfl ?_)))
 refine run_if rfl rfl (fun h2=>?_) (fun h2=>?_)
 ·replace F1:=ift h2 F1
  refine sk rfl (sq rfl (bk rfl (sq rfl ?_)))
  obtain ⟨h3,F1⟩:=ifg F1
  refine rg [(0,.ptr 0 [] 0),(5,.ptr 5040 [] 0),(6,.v (.sl S44) x1),(7,vi ((length x1:Nat):Int)),(8,vi s1.1)] [(0,.var 183 O183 (x0.1,1000)),(1000,.row 48 S48 s1.2),(5040,.var 44 S44 (getD x1 (toNat s1.1) S44.dflt))] [] [] 5000 rfl (by kernel_rfl) (cc h3 c0) ?_
  obtain ⟨h4,F1⟩:=ifg F1
  refine rG [(0,.ptr 0 [] 0),(6,.v (.sl S44) x1),(7,vi ((length x1:Nat):Int)),(8,vi s1.1)] [(0,.var 183 O183 (x0.1,5201)),(5201,.row 48 S48 (s1.2++[(false,getD x1 (toNat s1.1) S44.dflt,(0,0,0),replicate 8 0)]))] [] [] 5041 rfl rfl (by kernel_rfl) (cc h4.1 (cc h4.2 (cc (show (.row 1000:AVal)=(.row 1000) from rfl) c0))) (run_renF (ρ':=[(0,.ptr 0 [] 0),(6,.v (.sl S44) x1),(7,vi ((length x1:Nat):Int)),(8,vi s1.1)]) (H':=[(1000,.row 48 S48 (s1.2++[(false,getD x1 (toNat s1.1) S44.dflt,(0,0,0),replicate 8 0)])),(0,.var 183 O183 (x0.1,1000))]) 5201 1000 rfl (by kernel_rfl) rfl rfl (by kernel_rfl) rfl (eb (rg [(0,.ptr 0 [] 0),(6,.v (.sl S44) x1),(7,vi ((length x1:Nat):Int)),(8,vi (wrap .i64 (s1.1+1)))] [(0,.var 183 O183 (x0.1,1000)),(1000,.row 48 S48 (s1.2++[(false,getD x1 (toNat s1.1) S44.dflt,(0,0,0),replicate 8 0)]))] [] [] 5000 rfl (by kernel_rfl) c0 ?_)))
  exact ih1 _ (inj F1).symm
 ·replace F1:=ifn h2 F1
  refine run_exit rfl rfl (tm (ρ':=[]) (H':=[(0,.var 183 O183 (x0.1,1000)),(1000,.row 48 S48 s1.2)]) (by kernel_rfl) (by kernel_rfl) rfl ?_)
  exact J1_0 _ (inrI hr1 F1).symm
noncomputable def F_core_under_install (x0:S183.ty):Option S183.ty :=
 if apOk (length x0.2+1) 408 then (some ((x0.1.1,x0.1.2.1,x0.1.2.2.1,x0.1.2.2.2.1,x0.1.2.2.2.2.2.2.2.2.1,x0.1.2.2.2.2.2.2.2.2.2.1,replicate 8 0,[],x0.1.2.2.2.2.2.2.2.2.1,x0.1.2.2.2.2.2.2.2.2.2.1,replicate 8 0,false,x0.1.2.2.2.2.2.2.2.2.2.2.2.2),x0.2++[(true,(0,0,replicate 3 (replicate 2 (0,0,0,0,0,[]))),x0.1.2.2.2.2.2.2.2.2.1,x0.1.2.2.2.2.2.2.2.2.2.1)])) else none
theorem W_core_under_install {x0:S183.ty} {y:S183.ty} (F0:F_core_under_install x0=some y):Mut Tryz.prog 150 2 [.ptr 0 [] 0] [(0,.var 183 O183 (x0.1,1)),(1,.row 48 S48 x0.2)] (.tup []) [(0,.var 183 O183 (y.1,1000)),(1000,.row 48 S48 y.2)]:=by
 unfold F_core_under_install at F0
 refine mut_of_run @Tryz.call150 @Tryz.func150 rfl rfl fun b=>?_
 refine run_renF (ρ':=[(0,.ptr 0 [] 0)]) (H':=[(1000,.row 48 S48 x0.2),(0,.var 183 O183 (x0.1,1000))]) 1 1000 rfl (by kernel_rfl) rfl rfl (by kernel_rfl) rfl (sq rfl ?_)
 obtain ⟨h1,F0⟩:=ifg F0
 refine rG [(0,.ptr 0 [] 0)] [(0,.var 183 O183 (x0.1,5340)),(5340,.row 48 S48 (x0.2++[(true,(0,0,replicate 3 (replicate 2 (0,0,0,0,0,[]))),x0.1.2.2.2.2.2.2.2.2.1,x0.1.2.2.2.2.2.2.2.2.2.1)]))] [] [] 5000 rfl rfl (by kernel_rfl) (cc h1.1 (cc h1.2 (cc (show (.row 1000:AVal)=(.row 1000) from rfl) c0))) (run_renF (ρ':=[(0,.ptr 0 [] 0)]) (H':=[(1000,.row 48 S48 (x0.2++[(true,(0,0,replicate 3 (replicate 2 (0,0,0,0,0,[]))),x0.1.2.2.2.2.2.2.2.2.1,x0.1.2.2.2.2.2.2.2.2.2.1)])),(0,.var 183 O183 (x0.1,1000))]) 5340 1000 rfl (by kernel_rfl) rfl rfl (by kernel_rfl) rfl (sq rfl (rG [(0,.ptr 0 [] 0)] [(0,.var 183 O183 ((x0.1.1,x0.1.2.1,x0.1.2.2.1,x0.1.2.2.2.1,x0.1.2.2.2.2.2.2.2.2.1,x0.1.2.2.2.2.2.2.2.2.2.1,x0.1.2.2.2.2.2.2.1,x0.1.2.2.2.2.2.2.2.1,x0.1.2.2.2.2.2.2.2.2.1,x0.1.2.2.2.2.2.2.2.2.2.1,x0.1.2.2.2.2.2.2.2.2.2.2.1,false,x0.1.2.2.2.2.2.2.2.2.2.2.2.2),1000)),(1000,.row 48 S48 (x0.2++[(true,(0,0,replicate 3 (replicate 2 (0,0,0,0,0,[]))),x0.1.2.2.2.2.2.2.2.2.1,x0.1.2.2.2.2.2.2.2.2.2.1)]))] [] [] 5000 rfl rfl (by kernel_rfl) c0 (rg [] [(0,.var 183 (.st (.prod (.st (.prod (.int .i64) (.prod (.int .i64) (.prod (.int .u32) (.prod S72 (.prod S36 (.prod (.arr 8 (.int .u32)) (.prod (.arr 8 (.int .u32)) (.prod (.nl .any) (.prod S36 (.prod (.arr 8 (.int .u32)) (.prod (.arr 8 (.int .u32)) (.prod .bool (.prod (.arr 8 S75) (.int .u32))))))))))))))) .ref)) ((x0.1.1,x0.1.2.1,x0.1.2.2.1,x0.1.2.2.2.1,x0.1.2.2.2.2.2.2.2.2.1,x0.1.2.2.2.2.2.2.2.2.2.1,replicate 8 0,(),x0.1.2.2.2.2.2.2.2.2.1,x0.1.2.2.2.2.2.2.2.2.2.1,replicate 8 0,false,x0.1.2.2.2.2.2.2.2.2.2.2.2.2),1000)),(1000,.row 48 S48 (x0.2++[(true,(0,0,replicate 3 (replicate 2 (0,0,0,0,0,[]))),x0.1.2.2.2.2.2.2.2.2.1,x0.1.2.2.2.2.2.2.2.2.2.1)]))] [] [] 5000 rfl (by kernel_rfl) c0 (run_coeI (H':=[(0,.var 183 O183 ((x0.1.1,x0.1.2.1,x0.1.2.2.1,x0.1.2.2.2.1,x0.1.2.2.2.2.2.2.2.2.1,x0.1.2.2.2.2.2.2.2.2.2.1,replicate 8 0,[],x0.1.2.2.2.2.2.2.2.2.1,x0.1.2.2.2.2.2.2.2.2.2.1,replicate 8 0,false,x0.1.2.2.2.2.2.2.2.2.2.2.2.2),1000)),(1000,.row 48 S48 (x0.2++[(true,(0,0,replicate 3 (replicate 2 (0,0,0,0,0,[]))),x0.1.2.2.2.2.2.2.2.2.1,x0.1.2.2.2.2.2.2.2.2.2.1)]))]) 0 O183 rfl (by kernel_rfl) rfl rfl ?_)))))
 obtain rfl:=inj F0
 exact fall_mut (q:=[]) [] [0,1000] rfl (by kernel_rfl) rfl (by kernel_rfl)
noncomputable def F_core_under_goOn (x0:S183.ty):Option S183.ty :=
 (F_core_Gathers x0.1).bind fun t1=>(if (!t1)=true then some x0 else (show Option Bool from if (!x0.1.2.2.2.2.2.2.2.2.2.2.2.1)=true then (F_gather_All x0.1).bind fun t4=>(if (t4)=true then (F_gather_Target x0.1).bind fun t5=>((F_cut_Within t5 x0.1.2.2.2.2.2.2.1).bind fun t6=>(some t6)) else some false) else some false).bind (fun r1=>(show Option (S78.ty×Unit) from if (r1)=true then some ((x0.1.1,x0.1.2.1,x0.1.2.2.1,x0.1.2.2.2.1,x0.1.2.2.2.2.1,x0.1.2.2.2.2.2.1,x0.1.2.2.2.2.2.2.1,x0.1.2.2.2.2.2.2.2.1,x0.1.2.2.2.2.2.2.2.2.1,x0.1.2.2.2.2.2.2.2.2.2.1,x0.1.2.2.2.2.2.2.2.2.2.2.1,true,x0.1.2.2.2.2.2.2.2.2.2.2.2.2),()) else some (x0.1,())).bind (fun r2=>(show Option Bool from if r2.1.2.2.2.2.2.2.2.2.2.2.2.1=true then (F_gather_Done r2.1).bind fun t3=>(some t3) else some false).bind (fun r3=>if (r3)=true then (F_core_under_install (r2.1,x0.2)).bind fun t2=>(some t2) else some (r2.1,x0.2)))))
theorem W_core_under_goOn {x0:S183.ty} {y:S183.ty} (F0:F_core_under_goOn x0=some y):Mut Tryz.prog 116 2 [.ptr 0 [] 0] [(0,.var 183 O183 (x0.1,1)),(1,.row 48 S48 x0.2)] (.tup []) [(0,.var 183 O183 (y.1,1000)),(1000,.row 48 S48 y.2)]:=by
 unfold F_core_under_goOn at F0
 refine mut_of_run @Tryz.call116 @Tryz.func116 rfl rfl fun b=>?_
 refine run_renF (ρ':=[(0,.ptr 0 [] 0)]) (H':=[(1000,.row 48 S48 x0.2),(0,.var 183 O183 (x0.1,1000))]) 1 1000 rfl (by kernel_rfl) rfl rfl (by kernel_rfl) rfl (sq rfl (sq rfl ?_))
 obtain ⟨t1,h1,F0⟩:=obd F0
 refine rg [(0,.ptr 0 [] 0),(7,vb (!t1))] [(0,.var 183 O183 (x0.1,1000)),(1000,.row 48 S48 x0.2)] [(4,⟨[.v S78],vb t1,none⟩)] [] 5000 rfl (by kernel_rfl) (cc (W_core_Gathers h1) c0) ?_
 refine run_if rfl rfl (fun h2=>?_) (fun h2=>?_)
 ·replace F0:=ift h2 F0
  refine tm (ρ':=[]) (H':=[(0,.var 183 O183 (x0.1,1000)),(1000,.row 48 S48 x0.2)]) (by kernel_rfl) (by kernel_rfl) rfl ?_
  obtain rfl:=inj F0
  exact ret_mut (q:=[]) [] [0,1000] rfl rfl (by kernel_rfl) rfl (by kernel_rfl)
 ·replace F0:=ifn h2 F0
  refine sk rfl (sq rfl (sq rfl ?_))
  obtain ⟨r1,F1,F0⟩:=obd F0
  refine run_cut (fun r1'=>r1=r1') (fun r1=>[(0,.ptr 0 [] 0),(33,vb r1)]) (fun r1=>[(0,.var 183 O183 (x0.1,1000)),(1000,.row 48 S48 x0.2)]) (fun r1' h3=>?_) (fun J1_0=>?_)
  ·subst h3
   obtain ⟨r2,F1,F0⟩:=obd F0
   refine run_cut (fun r2'=>r2=r2') (fun r2=>[(0,.ptr 0 [] 0)]) (fun r2=>[(0,.var 183 O183 (r2.1,1000)),(1000,.row 48 S48 x0.2)]) (fun r2' h4=>?_) (fun J2_0=>?_)
   ·subst h4
    refine sq rfl ?_
    obtain ⟨r3,F1,F0⟩:=obd F0
    refine run_cut (fun r3'=>r3=r3') (fun r3=>[(0,.ptr 0 [] 0),(49,vb r3)]) (fun r3=>[(0,.var 183 O183 (r2.1,1000)),(1000,.row 48 S48 x0.2)]) (fun r3' h5=>?_) (fun J3_0=>?_)
    ·subst h5
     refine run_if rfl rfl (fun h6=>?_) (fun h6=>?_)
     ·replace F0:=ift h6 F0
      obtain ⟨t2,h7,F0⟩:=obd F0
      refine rg [] [(0,.var 183 O183 (t2.1,6020)),(6020,.row 48 S48 t2.2)] [(1,⟨[.v .unit],.tup [],some ([0,1000],[(0,.var 183 O183 (t2.1,1000)),(1000,.row 48 S48 t2.2)])⟩)] [] 5000 rfl (by kernel_rfl) (cc (W_core_under_install h7) c0) (run_renF (ρ':=[]) (H':=[(1000,.row 48 S48 t2.2),(0,.var 183 O183 (t2.1,1000))]) 6020 1000 rfl (by kernel_rfl) rfl rfl (by kernel_rfl) rfl (tm (ρ':=[]) (H':=[(0,.var 183 O183 (t2.1,1000)),(1000,.row 48 S48 t2.2)]) (by kernel_rfl) (by kernel_rfl) rfl ?_))
      obtain rfl:=inj F0
      exact fall_mut (q:=[]) [] [0,1000] rfl (by kernel_rfl) rfl (by kernel_rfl)
     ·replace F0:=ifn h6 F0
      refine sk rfl (tm (ρ':=[]) (H':=[(0,.var 183 O183 (r2.1,1000)),(1000,.row 48 S48 x0.2)]) (by kernel_rfl) (by kernel_rfl) rfl ?_)
      obtain rfl:=inj F0
      exact fall_mut (q:=[]) [] [0,1000] rfl (by kernel_rfl) rfl (by kernel_rfl)
    rcases Bool.eq_false_or_eq_true r2.1.2.2.2.2.2.2.2.2.2.2.2.1 with h8|h8
    ·replace F1:=ift h8 F1
     obtain ⟨t3,h9,F1⟩:=obd F1
     refine rg [(0,.ptr 0 [] 0),(49,vb t3)] [(0,.var 183 O183 (r2.1,1000)),(1000,.row 48 S48 x0.2)] [(10,⟨[.v S78],vb t3,none⟩)] [(5,true)] 5000 rfl (by kernel_rfl) (cc h8 (cc (W_gather_Done h9) c0)) ?_
     exact J3_0 _ (inj F1).symm
    ·replace F1:=ifn h8 F1
     refine rg [(0,.ptr 0 [] 0),(49,vb false)] [(0,.var 183 O183 (r2.1,1000)),(1000,.row 48 S48 x0.2)] [] [(5,false)] 5000 rfl (by kernel_rfl) (cc h8 c0) ?_
     exact J3_0 _ (inj F1).symm
   refine run_if rfl rfl (fun h10=>?_) (fun h10=>?_)
   ·replace F1:=ift h10 F1
    refine rg [(0,.ptr 0 [] 0)] [(0,.var 183 O183 ((x0.1.1,x0.1.2.1,x0.1.2.2.1,x0.1.2.2.2.1,x0.1.2.2.2.2.1,x0.1.2.2.2.2.2.1,x0.1.2.2.2.2.2.2.1,x0.1.2.2.2.2.2.2.2.1,x0.1.2.2.2.2.2.2.2.2.1,x0.1.2.2.2.2.2.2.2.2.2.1,x0.1.2.2.2.2.2.2.2.2.2.2.1,true,x0.1.2.2.2.2.2.2.2.2.2.2.2.2),1000)),(1000,.row 48 S48 x0.2)] [] [] 5000 rfl (by kernel_rfl) c0 ?_
    exact J2_0 _ (inj F1).symm
   ·replace F1:=ifn h10 F1
    refine sk rfl (tm (ρ':=[(0,.ptr 0 [] 0)]) (H':=[(0,.var 183 O183 (x0.1,1000)),(1000,.row 48 S48 x0.2)]) (by kernel_rfl) (by kernel_rfl) rfl ?_)
    exact J2_0 _ (inj F1).symm
  rcases Bool.eq_false_or_eq_true (!x0.1.2.2.2.2.2.2.2.2.2.2.2.1) with h11|h11
  ·replace F1:=ift h11 F1
   obtain ⟨t4,h12,F1⟩:=obd F1
   rcases Bool.eq_false_or_eq_true (t4) with h13|h13
   ·replace F1:=ift h13 F1
    obtain ⟨t5,h14,F1⟩:=obd F1
    obtain ⟨t6,h15,F1⟩:=obd F1
    refine rG [(0,.ptr 0 [] 0),(33,vb t6)] [(0,.var 183 O183 (x0.1,1000)),(1000,.row 48 S48 x0.2)] [(11,⟨[.v S78],vb t4,none⟩),(18,⟨[.v S78],.v (.arr 8 (.int .u32)) t5,none⟩),(24,⟨[.v (.arr 8 (.int .u32)),.v (.arr 8 (.int .u32))],vb t6,none⟩)] [(6,true),(13,true)] 5000 rfl rfl (by kernel_rfl) (cc h11 (cc (W_gather_All h12) (cc h13 (cc (W_gather_Target h14) (cc (W_cut_Within h15) c0))))) ?_
    exact J1_0 _ (inj F1).symm
   ·replace F1:=ifn h13 F1
    refine rG [(0,.ptr 0 [] 0),(33,vb false)] [(0,.var 183 O183 (x0.1,1000)),(1000,.row 48 S48 x0.2)] [(11,⟨[.v S78],vb t4,none⟩)] [(6,true),(13,false)] 5000 rfl rfl (by kernel_rfl) (cc h11 (cc (W_gather_All h12) (cc h13 c0))) ?_
    exact J1_0 _ (inj F1).symm
  ·replace F1:=ifn h11 F1
   refine rG [(0,.ptr 0 [] 0),(33,vb false)] [(0,.var 183 O183 (x0.1,1000)),(1000,.row 48 S48 x0.2)] [] [(6,false)] 5000 rfl rfl (by kernel_rfl) (cc h11 c0) ?_
   exact J1_0 _ (inj F1).symm
noncomputable def F_core_under_unsettled_1 (x0:Int) (x1:S183.ty) (x2:(List Int)):Option Bool :=
 if 0≤x0∧x0<((8:Nat):Int) then (show Option Bool from if (x0 != x1.1.1)=true then if 0≤x0∧x0<((8:Nat):Int) then (if ((getD x1.1.2.2.2.2.2.2.2.2.2.2.2.2.1 (toNat x0) S75.dflt).1==(getD x2 (toNat x0) 0))=true then (F_ident_Compare (getD x1.1.2.2.2.2.2.2.2.2.2.2.2.2.1 (toNat x0) S75.dflt).2.2.1 x1.1.2.2.2.2.2.2.2.2.1).bind fun t1=>(some (decide (t1>0))) else some false) else none else some false).bind (fun r1=>some r1) else none
theorem W_core_under_unsettled_1 {x0:Int} {x1:S183.ty} {x2:(List Int)} {y:Bool} (F0:F_core_under_unsettled_1 x0 x1 x2=some y):Pure Tryz.prog 142 [vi x0,.fp (.pt S183) x1,.fp (.arr 8 (.int .u32)) x2] (vb y):=by
 unfold F_core_under_unsettled_1 at F0
 refine pure_of_run @Tryz.call142 @Tryz.func142 rfl rfl fun w M ho=>?_
 refine sq rfl (rg [(0,vi x0),(1,.fp (.pt S183) x1),(2,.fp (.arr 8 (.int .u32)) x2)] [] [] [] 5000 rfl (by kernel_rfl) c0 (sq rfl ?_))
 obtain ⟨h1,F0⟩:=ifg F0
 refine rg [(0,vi x0),(1,.fp (.pt S183) x1),(2,.fp (.arr 8 (.int .u32)) x2),(5,.ptr 5140 [] 0)] [(5140,.var 75 S75 (getD x1.1.2.2.2.2.2.2.2.2.2.2.2.2.1 (toNat x0) S75.dflt))] [] [] 5000 rfl (by kernel_rfl) (cc h1 c0) (sq rfl ?_)
 obtain ⟨r1,F1,F0⟩:=obd F0
 refine run_cut (fun r1'=>r1=r1') (fun r1=>[(4,vb r1)]) (fun r1=>[]) (fun r1' h2=>?_) (fun J1_0=>?_)
 ·subst h2
  obtain rfl:=inj F0
  exact ret_pure (q:=[vb r1]) [.bool] rfl rfl (by kernel_rfl)
 rcases Bool.eq_false_or_eq_true (x0 != x1.1.1) with h3|h3
 ·replace F1:=ift h3 F1
  obtain ⟨h4,F1⟩:=ifg F1
  rcases Bool.eq_false_or_eq_true ((getD x1.1.2.2.2.2.2.2.2.2.2.2.2.2.1 (toNat x0) S75.dflt).1==(getD x2 (toNat x0) 0)) with h5|h5
  ·replace F1:=ift h5 F1
   obtain ⟨t1,h6,F1⟩:=obd F1
   refine rG [(4,vb (decide (t1>0)))] [] [(23,⟨[.v S36,.v S36],vi t1,none⟩)] [(7,true),(15,true)] 5141 rfl rfl (by kernel_rfl) (cc h3 (cc h4 (cc h5 (cc (W_ident_Compare h6) c0)))) ?_
   exact J1_0 _ (inj F1).symm
  ·replace F1:=ifn h5 F1
   refine rG [(4,vb false)] [] [] [(7,true),(15,false)] 5141 rfl rfl (by kernel_rfl) (cc h3 (cc h4 (cc h5 c0))) ?_
   exact J1_0 _ (inj F1).symm
 ·replace F1:=ifn h3 F1
  refine rG [(4,vb false)] [] [] [(7,false)] 5141 rfl rfl (by kernel_rfl) (cc h3 c0) ?_
  exact J1_0 _ (inj F1).symm
noncomputable def F_core_under_unsettled (x0:S183.ty) (x1:(List Int)):Option Bool :=
 (show Option Bool from (F_core_Gathers x0.1).bind fun t3=>(if (t3)=true then some true else some (!(Sh.eqb (.arr 8 (.int .u32)) x1 x0.1.2.2.2.2.2.1)))).bind (fun r1=>if (r1)=true then some true else (F_ident_List x1).bind fun t1=>((F_slices_ContainsFunc_int_int t1 (fun x=>F_core_under_unsettled_1 x x0 x1)).bind fun t2=>(some t2)))
theorem W_core_under_unsettled {x0:S183.ty} {x1:(List Int)} {y:Bool} (F0:F_core_under_unsettled x0 x1=some y):Pure Tryz.prog 113 [.fp S183 x0,.v (.arr 8 (.int .u32)) x1] (vb y):=by
 unfold F_core_under_unsettled at F0
 refine pure_of_run @Tryz.call113 @Tryz.func113 rfl rfl fun w M ho=>?_
 refine sq rfl (rg [(2,.ptr 5000 [] 0),(3,.ptr 5020 [] 0)] [(5000,.var 180 (.pt S183) x0),(5020,.var 46 (.arr 8 (.int .u32)) x1)] [] [] 5000 rfl (by kernel_rfl) c0 (sq rfl (sq rfl ?_)))
 obtain ⟨r1,F1,F0⟩:=obd F0
 refine run_cut (fun r1'=>r1=r1') (fun r1=>[(2,.ptr 5000 [] 0),(3,.ptr 5020 [] 0),(18,vb r1)]) (fun r1=>[(5000,.var 180 (.pt S183) x0),(5020,.var 46 (.arr 8 (.int .u32)) x1)]) (fun r1' h1=>?_) (fun J1_0=>?_)
 ·subst h1
  refine run_if rfl rfl (fun h2=>?_) (fun h2=>?_)
  ·replace F0:=ift h2 F0
   refine sq rfl (rg [(4,vb true)] [] [] [] 5021 rfl (by kernel_rfl) c0 ?_)
   obtain rfl:=inj F0
   exact ret_pure (q:=[vb true]) [.bool] rfl rfl (by kernel_rfl)
  ·replace F0:=ifn h2 F0
   refine sk rfl (sq rfl ?_)
   obtain ⟨t1,h3,F0⟩:=obd F0
   obtain ⟨t2,h4,F0⟩:=obd F0
   refine rg [(4,vb t2)] [] [(1,⟨[.v (.arr 8 (.int .u32))],.v (.sl (.int .i64)) t1,none⟩),(3,⟨[.v (.sl (.int .i64)),.fn (.int .i64) .bool (fun x=>F_core_under_unsettled_1 x x0 x1)],vb t2,none⟩)] [] 5021 rfl (by kernel_rfl) (cc (W_ident_List h3) (cc (show Enters Tryz.prog 142 from Tryz.call142) (cc (show ∀x y,(fun x=>F_core_under_unsettled_1 x x0 x1) x=some y→Pure Tryz.prog 142 (.v (.int .i64) x::[.fp (.pt S183) x0,.fp (.arr 8 (.int .u32)) x1]) (.v .bool y) from fun x y h=>W_core_under_unsettled_1 h) (cc (W_slices_ContainsFunc_int_int h4) c0)))) ?_
   obtain rfl:=inj F0
   exact ret_pure (q:=[vb t2]) [.bool] rfl rfl (by kernel_rfl)
 obtain ⟨t3,h5,F1⟩:=obd F1
 rcases Bool.eq_false_or_eq_true (t3) with h6|h6
 ·replace F1:=ift h6 F1
  refine rG [(2,.ptr 5000 [] 0),(3,.ptr 5020 [] 0),(18,vb true)] [(5000,.var 180 (.pt S183) x0),(5020,.var 46 (.arr 8 (.int .u32)) x1)] [(4,⟨[.v S78],vb t3,none⟩)] [(5,true)] 5021 rfl rfl (by kernel_rfl) (cc (W_core_Gathers h5) (cc h6 c0)) ?_
  exact J1_0 _ (inj F1).symm
 ·replace F1:=ifn h6 F1
  refine rG [(2,.ptr 5000 [] 0),(3,.ptr 5020 [] 0),(18,vb (!(Sh.eqb (.arr 8 (.int .u32)) x1 x0.1.2.2.2.2.2.1)))] [(5000,.var 180 (.pt S183) x0),(5020,.var 46 (.arr 8 (.int .u32)) x1)] [(4,⟨[.v S78],vb t3,none⟩)] [(5,false)] 5021 rfl rfl (by kernel_rfl) (cc (W_core_Gathers h5) (cc h6 c0)) ?_
  exact J1_0 _ (inj F1).symm
noncomputable def F_core_under_emit (x0:S183.ty) (x1:(List (List S39.ty))):Option (Bool×S183.ty) :=
 (show Option Bool from (F_core_Gathers x0.1).bind fun t3=>(if (t3)=true then some true else (F_round_May x0.1.2.2.2.2.2.2.1 x0.1.2.2.2.2.2.1 x0.1.1).bind fun t4=>(if (!t4)=true then some true else if 0≤x0.1.1∧x0.1.1<((8:Nat):Int) then (some ((getD x0.1.2.2.2.2.2.2.1 (toNat x0.1.1) 0)==4294967295)) else none))).bind (fun r1=>if (r1)=true then some (false,x0) else if 0≤x0.1.1∧x0.1.1<((8:Nat):Int) then (F_kept_Take x0.1.2.2.2.2.2.2.2.1 x0.1.2.2.2.2.2.2.1 x0.1.2.2.2.2.2.1 (x0.1.1,wrap .u32 ((getD x0.1.2.2.2.2.2.2.1 (toNat x0.1.1) 0)+1),x1)).bind fun t1=>(if t1.2.2=true then (F_core_under_frames ((x0.1.1,x0.1.2.1,x0.1.2.2.1,x0.1.2.2.2.1,x0.1.2.2.2.2.1,x0.1.2.2.2.2.2.1,t1.2.1,t1.1,x0.1.2.2.2.2.2.2.2.2),x0.2) [(x0.1.1,wrap .u32 ((getD x0.1.2.2.2.2.2.2.1 (toNat x0.1.1) 0)+1),x1)]).bind fun t2=>(some (t1.2.2,t2)) else some (t1.2.2,(x0.1.1,x0.1.2.1,x0.1.2.2.1,x0.1.2.2.2.1,x0.1.2.2.2.2.1,x0.1.2.2.2.2.2.1,t1.2.1,t1.1,x0.1.2.2.2.2.2.2.2.2),x0.2)) else none)
theorem W_core_under_emit {x0:S183.ty} {x1:(List (List S39.ty))} {y:(Bool×S183.ty)} (F0:F_core_under_emit x0 x1=some y):Mut Tryz.prog 117 2 [.ptr 0 [] 0,.v (.arr 3 (.arr 2 S39)) x1] [(0,.var 183 O183 (x0.1,1)),(1,.row 48 S48 x0.2)] (vb y.1) [(0,.var 183 O183 (y.2.1,1000)),(1000,.row 48 S48 y.2.2)]:=by
 unfold F_core_under_emit at F0
 refine mut_of_run @Tryz.call117 @Tryz.func117 rfl rfl fun b=>?_
 refine run_renF (ρ':=[(0,.ptr 0 [] 0),(1,.v (.arr 3 (.arr 2 S39)) x1)]) (H':=[(1000,.row 48 S48 x0.2),(0,.var 183 O183 (x0.1,1000))]) 1 1000 rfl (by kernel_rfl) rfl rfl (by kernel_rfl) rfl (sq rfl (rg [(0,.ptr 0 [] 0),(3,.ptr 5000 [] 0)] [(0,.var 183 O183 (x0.1,1000)),(1000,.row 48 S48 x0.2),(5000,.var 42 (.arr 3 (.arr 2 S39)) x1)] [] [] 5000 rfl (by kernel_rfl) c0 (sq rfl (sq rfl ?_))))
 obtain ⟨r1,F1,F0⟩:=obd F0
 refine run_cut (fun r1'=>r1=r1') (fun r1=>[(0,.ptr 0 [] 0),(3,.ptr 5000 [] 0),(44,vb r1)]) (fun r1=>[(0,.var 183 O183 (x0.1,1000)),(1000,.row 48 S48 x0.2),(5000,.var 42 (.arr 3 (.arr 2 S39)) x1)]) (fun r1' h1=>?_) (fun J1_0=>?_)
 ·subst h1
  refine run_if rfl rfl (fun h2=>?_) (fun h2=>?_)
  ·replace F0:=ift h2 F0
   refine sq rfl (rg [(4,vb false)] [(0,.var 183 O183 (x0.1,1000)),(1000,.row 48 S48 x0.2)] [] [] 5001 rfl (by kernel_rfl) c0 ?_)
   obtain rfl:=inj F0
   exact ret_mut (q:=[vb false]) [some .bool] [0,1000] rfl rfl (by kernel_rfl) rfl (by kernel_rfl)
  ·replace F0:=ifn h2 F0
   refine sk rfl (sq rfl ?_)
   obtain ⟨h3,F0⟩:=ifg F0
   refine rG [(0,.ptr 0 [] 0),(5,.ptr 5381 [] 0)] [(0,.var 183 O183 (x0.1,1000)),(1000,.row 48 S48 x0.2),(5381,.var 44 S44 (x0.1.1,wrap .u32 ((getD x0.1.2.2.2.2.2.2.1 (toNat x0.1.1) 0)+1),x1))] [] [] 5001 rfl rfl (by kernel_rfl) (cc h3 (cc (show offP O183 [.u,.l,.u,.r,.r,.r,.r,.r,.r,.l,.i (toNat x0.1.1)]=(31+toNat x0.1.1*1) from offJ (p:=[.u,.l,.u,.r,.r,.r,.r,.r,.r,.l]) (q:=[]) rfl (by kernel_rfl) (by kernel_rfl) (by kernel_rfl)) (cc (oo h3 trivial) (cc (show (vi x0.1.1:AVal)=(vi x0.1.1) from rfl) (cc (show (vi x0.1.1:AVal)=(vi x0.1.1) from rfl) (cc (show (.v (.int .u32) (getD x0.1.2.2.2.2.2.2.1 (toNat x0.1.1) 0):AVal)=(.v (.int .u32) (getD x0.1.2.2.2.2.2.2.1 (toNat x0.1.1) 0)) from rfl) (cc (show offP O183 [.u,.l,.u,.r,.r,.r,.r,.r,.r,.l,.i (toNat x0.1.1)]=(31+toNat x0.1.1*1) from offJ (p:=[.u,.l,.u,.r,.r,.r,.r,.r,.r,.l]) (q:=[]) rfl (by kernel_rfl) (by kernel_rfl) (by kernel_rfl)) (cc (oo h3 trivial) (cc (show (.v (.arr 3 (.arr 2 S39)) x1:AVal)=(.v (.arr 3 (.arr 2 S39)) x1) from rfl) c0))))))))) (sq rfl (rg [(0,.ptr 0 [] 0),(5,.ptr 5381 [] 0)] [(0,.var 183 O183 (x0.1,1000)),(1000,.row 48 S48 x0.2),(5381,.var 44 S44 (x0.1.1,wrap .u32 ((getD x0.1.2.2.2.2.2.2.1 (toNat x0.1.1) 0)+1),x1))] [] [] 5382 rfl (by kernel_rfl) c0 (sq rfl (sq rfl ?_))))
   obtain ⟨t1,h4,F0⟩:=obd F0
   refine rG [(0,.ptr 0 [] 0),(5,.ptr 5381 [] 0),(6,vb t1.2.2)] [(0,.var 183 O183 ((x0.1.1,x0.1.2.1,x0.1.2.2.1,x0.1.2.2.2.1,x0.1.2.2.2.2.1,x0.1.2.2.2.2.2.1,t1.2.1,t1.1,x0.1.2.2.2.2.2.2.2.2),1000)),(1000,.row 48 S48 x0.2),(5381,.var 44 S44 (x0.1.1,wrap .u32 ((getD x0.1.2.2.2.2.2.2.1 (toNat x0.1.1) 0)+1),x1))] [(18,⟨[.v (.sl S44),.v (.arr 8 (.int .u32)),.v (.arr 8 (.int .u32)),.v S44],.tup [.v (.sl S44) t1.1,.v (.arr 8 (.int .u32)) t1.2.1,vb t1.2.2],none⟩)] [] 5382 rfl rfl (by kernel_rfl) (cc (W_kept_Take h4) c0) (sq rfl (rg [(0,.ptr 0 [] 0),(5,.ptr 5381 [] 0),(6,vb t1.2.2),(93,vb t1.2.2)] [(0,.var 183 O183 ((x0.1.1,x0.1.2.1,x0.1.2.2.1,x0.1.2.2.2.1,x0.1.2.2.2.2.1,x0.1.2.2.2.2.2.1,t1.2.1,t1.1,x0.1.2.2.2.2.2.2.2.2),1000)),(1000,.row 48 S48 x0.2),(5381,.var 44 S44 (x0.1.1,wrap .u32 ((getD x0.1.2.2.2.2.2.2.1 (toNat x0.1.1) 0)+1),x1))] [] [] 5382 rfl (by kernel_rfl) c0 ?_))
   refine run_if rfl rfl (fun h5=>?_) (fun h5=>?_)
   ·replace F0:=ift h5 F0
    obtain ⟨t2,h6,F0⟩:=obd F0
    refine rg [(6,vb t1.2.2)] [(0,.var 183 O183 (t2.1,6442)),(6442,.row 48 S48 t2.2)] [(2,⟨[],.v (.sl S44) [(x0.1.1,wrap .u32 ((getD x0.1.2.2.2.2.2.2.1 (toNat x0.1.1) 0)+1),x1)],none⟩),(3,⟨[.v .unit,.v (.sl S44)],.tup [],some ([0,1000],[(0,.var 183 O183 (t2.1,1000)),(1000,.row 48 S48 t2.2)])⟩)] [] 5382 rfl (by kernel_rfl) (cc (W_core_under_frames h6) c0) (run_renF (ρ':=[(6,vb t1.2.2)]) (H':=[(1000,.row 48 S48 t2.2),(0,.var 183 O183 (t2.1,1000))]) 6442 1000 rfl (by kernel_rfl) rfl rfl (by kernel_rfl) rfl (sq rfl (rg [(4,vb t1.2.2)] [(0,.var 183 O183 (t2.1,1000)),(1000,.row 48 S48 t2.2)] [] [] 5000 rfl (by kernel_rfl) c0 ?_)))
    obtain rfl:=inj F0
    exact ret_mut (q:=[vb t1.2.2]) [some .bool] [0,1000] rfl rfl (by kernel_rfl) rfl (by kernel_rfl)
   ·replace F0:=ifn h5 F0
    refine sk rfl (sq rfl (rg [(4,vb t1.2.2)] [(0,.var 183 O183 ((x0.1.1,x0.1.2.1,x0.1.2.2.1,x0.1.2.2.2.1,x0.1.2.2.2.2.1,x0.1.2.2.2.2.2.1,t1.2.1,t1.1,x0.1.2.2.2.2.2.2.2.2),1000)),(1000,.row 48 S48 x0.2)] [] [] 5382 rfl (by kernel_rfl) c0 ?_))
    obtain rfl:=inj F0
    exact ret_mut (q:=[vb t1.2.2]) [some .bool] [0,1000] rfl rfl (by kernel_rfl) rfl (by kernel_rfl)
 obtain ⟨t3,h7,F1⟩:=obd F1
 rcases Bool.eq_false_or_eq_true (t3) with h8|h8
 ·replace F1:=ift h8 F1
  refine rG [(0,.ptr 0 [] 0),(3,.ptr 5000 [] 0),(44,vb true)] [(0,.var 183 O183 (x0.1,1000)),(1000,.row 48 S48 x0.2),(5000,.var 42 (.arr 3 (.arr 2 S39)) x1)] [(4,⟨[.v S78],vb t3,none⟩)] [(5,true)] 5001 rfl rfl (by kernel_rfl) (cc (W_core_Gathers h7) (cc h8 c0)) ?_
  exact J1_0 _ (inj F1).symm
 ·replace F1:=ifn h8 F1
  obtain ⟨t4,h9,F1⟩:=obd F1
  rcases Bool.eq_false_or_eq_true (!t4) with h10|h10
  ·replace F1:=ift h10 F1
   refine rG [(0,.ptr 0 [] 0),(3,.ptr 5000 [] 0),(44,vb true)] [(0,.var 183 O183 (x0.1,1000)),(1000,.row 48 S48 x0.2),(5000,.var 42 (.arr 3 (.arr 2 S39)) x1)] [(4,⟨[.v S78],vb t3,none⟩),(21,⟨[.v (.arr 8 (.int .u32)),.v (.arr 8 (.int .u32)),.v (.int .i64)],vb t4,none⟩)] [(5,false),(24,true)] 5001 rfl rfl (by kernel_rfl) (cc (W_core_Gathers h7) (cc h8 (cc (W_round_May h9) (cc h10 c0)))) ?_
   exact J1_0 _ (inj F1).symm
  ·replace F1:=ifn h10 F1
   obtain ⟨h11,F1⟩:=ifg F1
   refine rG [(0,.ptr 0 [] 0),(3,.ptr 5000 [] 0),(44,vb ((getD x0.1.2.2.2.2.2.2.1 (toNat x0.1.1) 0)==4294967295))] [(0,.var 183 O183 (x0.1,1000)),(1000,.row 48 S48 x0.2),(5000,.var 42 (.arr 3 (.arr 2 S39)) x1)] [(4,⟨[.v S78],vb t3,none⟩),(21,⟨[.v (.arr 8 (.int .u32)),.v (.arr 8 (.int .u32)),.v (.int .i64)],vb t4,none⟩)] [(5,false),(24,false)] 5001 rfl rfl (by kernel_rfl) (cc (W_core_Gathers h7) (cc h8 (cc (W_round_May h9) (cc h10 (cc h11 (cc (show offP O183 [.u,.l,.u,.r,.r,.r,.r,.r,.r,.l,.i (toNat x0.1.1)]=(31+toNat x0.1.1*1) from offJ (p:=[.u,.l,.u,.r,.r,.r,.r,.r,.r,.l]) (q:=[]) rfl (by kernel_rfl) (by kernel_rfl) (by kernel_rfl)) (cc (oo h11 trivial) c0))))))) ?_
   exact J1_0 _ (inj F1).symm
noncomputable def F_core_Tick (x0:S78.ty) (x1:(List (List S39.ty))):Option (S78.ty×Bool×(List S48.ty)) :=
 (F_core_begun x0).bind fun t1=>((F_core_fits x0).bind fun t2=>(if (!t2)=true then some (t1.1,false,[]) else (F_beat_Tick t1.1.2.2.2.1).bind fun t3=>((F_beat_Reach t3 t1.1.1 t1.1.2.2.1 (wrap .u32 t1.1.2.1)).bind fun t4=>((F_core_under_unsettled ((t1.1.1,t1.1.2.1,t1.1.2.2.1,t3,t1.1.2.2.2.2),t1.2) t4).bind fun t5=>((show Option ((S78.ty×Unit)×(List S48.ty)) from if (t5)=true then (F_gather_Propose (t1.1.1,t1.1.2.1,t1.1.2.2.1,t3,t1.1.2.2.2.2) t4).bind fun t8=>(if t8.2=true then (F_core_under_promise ((t1.1.1,t1.1.2.1,t1.1.2.2.1,t3,t1.1.2.2.2.2.1,t1.1.2.2.2.2.2.1,t1.1.2.2.2.2.2.2.1,t1.1.2.2.2.2.2.2.2.1,t1.1.2.2.2.2.2.2.2.2.1,t1.1.2.2.2.2.2.2.2.2.2.1,t1.1.2.2.2.2.2.2.2.2.2.2.1,t1.1.2.2.2.2.2.2.2.2.2.2.2.1,t1.1.2.2.2.2.2.2.2.2.2.2.2.2.1,t8.1.1),t1.2) t8.1 t4).bind fun t9=>(some ((t9.1,()),t9.2)) else some (((t1.1.1,t1.1.2.1,t1.1.2.2.1,t3,t1.1.2.2.2.2),()),t1.2)) else some (((t1.1.1,t1.1.2.1,t1.1.2.2.1,t3,t1.1.2.2.2.2),()),t1.2)).bind (fun r1=>(F_core_under_goOn (r1.1.1,r1.2)).bind fun t6=>((F_core_under_emit t6 x1).bind fun t7=>(some (t7.2.1,t7.1,t7.2.2)))))))))
theorem W_core_Tick {x0:S78.ty} {x1:(List (List S39.ty))} {y:(S78.ty×Bool×(List S48.ty))} (F0:F_core_Tick x0 x1=some y):Pure Tryz.prog 86 [.v S78 x0,.v (.arr 3 (.arr 2 S39)) x1] (.tup [.v S78 y.1,vb y.2.1,.v (.sl S48) y.2.2]):=by
 unfold F_core_Tick at F0
 refine pure_of_run @Tryz.call86 @Tryz.func86 rfl rfl fun w M ho=>?_
 refine sq rfl (rg [(2,.ptr 5000 [] 0),(3,.ptr 5020 [] 0),(4,.ptr 5040 [] 0)] [(5000,.var 78 S78 x0),(5020,.var 42 (.arr 3 (.arr 2 S39)) x1),(5040,.var 78 Z78 (0,0,0,(0,replicate 8 0,replicate 8 0),(0,0,0),replicate 8 0,replicate 8 0,(),(0,0,0),replicate 8 0,replicate 8 0,false,replicate 8 (0,(0,0,0),(0,0,0),replicate 8 0,false),0))] [] [] 5000 rfl (by kernel_rfl) c0 (sq rfl ?_))
 obtain ⟨t1,h1,F0⟩:=obd F0
 refine rg [(2,.ptr 5000 [] 0),(3,.ptr 5020 [] 0),(4,.ptr 5040 [] 0),(7,.ptr 5061 [] 0)] [(5000,.var 78 S78 x0),(5020,.var 42 (.arr 3 (.arr 2 S39)) x1),(5040,.var 78 Z78 (0,0,0,(0,replicate 8 0,replicate 8 0),(0,0,0),replicate 8 0,replicate 8 0,(),(0,0,0),replicate 8 0,replicate 8 0,false,replicate 8 (0,(0,0,0),(0,0,0),replicate 8 0,false),0)),(5061,.var 183 O183 (t1.1,8621)),(8621,.row 48 S48 t1.2)] [(1,⟨[.v S78],.ptr 0 [] 0,some ([],[(3560,.row 48 S48 t1.2),(0,.var 183 O183 (t1.1,3560))])⟩)] [] 5041 rfl (by kernel_rfl) (cc (W_core_begun h1) c0) (run_renF (ρ':=[(2,.ptr 5000 [] 0),(3,.ptr 5020 [] 0),(4,.ptr 5040 [] 0),(7,.ptr 5061 [] 0)]) (H':=[(1000,.row 48 S48 t1.2),(5000,.var 78 S78 x0),(5020,.var 42 (.arr 3 (.arr 2 S39)) x1),(5040,.var 78 Z78 (0,0,0,(0,replicate 8 0,replicate 8 0),(0,0,0),replicate 8 0,replicate 8 0,(),(0,0,0),replicate 8 0,replicate 8 0,false,replicate 8 (0,(0,0,0),(0,0,0),replicate 8 0,false),0)),(5061,.var 183 O183 (t1.1,1000))]) 8621 1000 rfl (by kernel_rfl) rfl rfl (by kernel_rfl) rfl (sq rfl (sq rfl ?_)))
 obtain ⟨t2,h2,F0⟩:=obd F0
 refine rg [(3,.ptr 5020 [] 0),(4,.ptr 5040 [] 0),(7,.ptr 5061 [] 0),(16,vb (!t2))] [(1000,.row 48 S48 t1.2),(5020,.var 42 (.arr 3 (.arr 2 S39)) x1),(5040,.var 78 Z78 (0,0,0,(0,replicate 8 0,replicate 8 0),(0,0,0),replicate 8 0,replicate 8 0,(),(0,0,0),replicate 8 0,replicate 8 0,false,replicate 8 (0,(0,0,0),(0,0,0),replicate 8 0,false),0)),(5061,.var 183 O183 (t1.1,1000))] [(1,⟨[.v S78],vb t2,none⟩)] [] 5062 rfl (by kernel_rfl) (cc (W_core_fits h2) c0) ?_
 refine run_if rfl rfl (fun h3=>?_) (fun h3=>?_)
 ·replace F0:=ift h3 F0
  refine sq rfl (rg [(4,.ptr 5040 [] 0),(5,vb false),(6,.v (.nl .any) ())] [(5040,.var 78 S78 t1.1)] [] [] 5062 rfl (by kernel_rfl) c0 ?_)
  obtain rfl:=inj F0
  exact ret_pure (q:=[.v S78 t1.1,vb false,.v (.sl S48) []]) [S78,.bool,(.sl S48)] rfl rfl (by kernel_rfl)
 ·replace F0:=ifn h3 F0
  refine sk rfl (sq rfl ?_)
  obtain ⟨t3,h4,F0⟩:=obd F0
  refine rg [(3,.ptr 5020 [] 0),(4,.ptr 5040 [] 0),(7,.ptr 5061 [] 0)] [(1000,.row 48 S48 t1.2),(5020,.var 42 (.arr 3 (.arr 2 S39)) x1),(5040,.var 78 Z78 (0,0,0,(0,replicate 8 0,replicate 8 0),(0,0,0),replicate 8 0,replicate 8 0,(),(0,0,0),replicate 8 0,replicate 8 0,false,replicate 8 (0,(0,0,0),(0,0,0),replicate 8 0,false),0)),(5061,.var 183 O183 ((t1.1.1,t1.1.2.1,t1.1.2.2.1,t3,t1.1.2.2.2.2),1000))] [(6,⟨[.v S72],.v S72 t3,none⟩)] [] 5062 rfl (by kernel_rfl) (cc (W_beat_Tick h4) c0) (sq rfl ?_)
  obtain ⟨t4,h5,F0⟩:=obd F0
  refine rG [(3,.ptr 5020 [] 0),(4,.ptr 5040 [] 0),(7,.ptr 5061 [] 0),(8,.ptr 5502 [] 0)] [(1000,.row 48 S48 t1.2),(5020,.var 42 (.arr 3 (.arr 2 S39)) x1),(5040,.var 78 Z78 (0,0,0,(0,replicate 8 0,replicate 8 0),(0,0,0),replicate 8 0,replicate 8 0,(),(0,0,0),replicate 8 0,replicate 8 0,false,replicate 8 (0,(0,0,0),(0,0,0),replicate 8 0,false),0)),(5061,.var 183 O183 ((t1.1.1,t1.1.2.1,t1.1.2.2.1,t3,t1.1.2.2.2.2),1000)),(5502,.var 46 (.arr 8 (.int .u32)) t4)] [(21,⟨[.v S72,.v (.int .i64),.v (.int .u32),.v (.int .u32)],.v (.arr 8 (.int .u32)) t4,none⟩)] [] 5062 rfl rfl (by kernel_rfl) (cc (W_beat_Reach h5) (cc (show (.v S72 t3:AVal)=(.v S72 t3) from rfl) (cc (show (vi t1.1.1:AVal)=(vi t1.1.1) from rfl) (cc (show (.v (.int .u32) t1.1.2.2.1:AVal)=(.v (.int .u32) t1.1.2.2.1) from rfl) (cc (show (vi t1.1.2.1:AVal)=(vi t1.1.2.1) from rfl) c0))))) (sq rfl (sq rfl ?_))
  obtain ⟨t5,h6,F0⟩:=obd F0
  refine rg [(3,.ptr 5020 [] 0),(4,.ptr 5040 [] 0),(7,.ptr 5061 [] 0),(8,.ptr 5502 [] 0),(55,vb t5)] [(1000,.row 48 S48 t1.2),(5020,.var 42 (.arr 3 (.arr 2 S39)) x1),(5040,.var 78 Z78 (0,0,0,(0,replicate 8 0,replicate 8 0),(0,0,0),replicate 8 0,replicate 8 0,(),(0,0,0),replicate 8 0,replicate 8 0,false,replicate 8 (0,(0,0,0),(0,0,0),replicate 8 0,false),0)),(5061,.var 183 O183 ((t1.1.1,t1.1.2.1,t1.1.2.2.1,t3,t1.1.2.2.2.2),1000)),(5502,.var 46 (.arr 8 (.int .u32)) t4)] [(2,⟨[.fp S183,.v (.arr 8 (.int .u32))],vb t5,none⟩)] [] 5503 rfl (by kernel_rfl) (cc (W_core_under_unsettled h6) c0) ?_
  obtain ⟨r1,F1,F0⟩:=obd F0
  refine run_cut (fun r1'=>r1=r1') (fun r1=>[(3,.ptr 5020 [] 0),(4,.ptr 5040 [] 0),(7,.ptr 5061 [] 0)]) (fun r1=>[(1000,.row 48 S48 r1.2),(5020,.var 42 (.arr 3 (.arr 2 S39)) x1),(5040,.var 78 Z78 (0,0,0,(0,replicate 8 0,replicate 8 0),(0,0,0),replicate 8 0,replicate 8 0,(),(0,0,0),replicate 8 0,replicate 8 0,false,replicate 8 (0,(0,0,0),(0,0,0),replicate 8 0,false),0)),(5061,.var 183 O183 (r1.1.1,1000))]) (fun r1' h7=>?_) (fun J1_0=>?_)
  ·subst h7
   refine sq rfl ?_
   obtain ⟨t6,h8,F0⟩:=obd F0
   refine rg [(3,.ptr 5020 [] 0),(4,.ptr 5040 [] 0),(7,.ptr 5061 [] 0)] [(5020,.var 42 (.arr 3 (.arr 2 S39)) x1),(5040,.var 78 Z78 (0,0,0,(0,replicate 8 0,replicate 8 0),(0,0,0),replicate 8 0,replicate 8 0,(),(0,0,0),replicate 8 0,replicate 8 0,false,replicate 8 (0,(0,0,0),(0,0,0),replicate 8 0,false),0)),(5061,.var 183 O183 (t6.1,6082)),(6082,.row 48 S48 t6.2)] [(1,⟨[.v .unit],.tup [],some ([5061,1000],[(0,.var 183 O183 (t6.1,1000)),(1000,.row 48 S48 t6.2)])⟩)] [] 5062 rfl (by kernel_rfl) (cc (W_core_under_goOn h8) c0) (run_renF (ρ':=[(3,.ptr 5020 [] 0),(4,.ptr 5040 [] 0),(7,.ptr 5061 [] 0)]) (H':=[(1000,.row 48 S48 t6.2),(5020,.var 42 (.arr 3 (.arr 2 S39)) x1),(5040,.var 78 Z78 (0,0,0,(0,replicate 8 0,replicate 8 0),(0,0,0),replicate 8 0,replicate 8 0,(),(0,0,0),replicate 8 0,replicate 8 0,false,replicate 8 (0,(0,0,0),(0,0,0),replicate 8 0,false),0)),(5061,.var 183 O183 (t6.1,1000))]) 6082 1000 rfl (by kernel_rfl) rfl rfl (by kernel_rfl) rfl (sq rfl ?_))
   obtain ⟨t7,h9,F0⟩:=obd F0
   refine rg [(4,.ptr 5040 [] 0),(7,.ptr 5061 [] 0),(11,vb t7.1)] [(5040,.var 78 Z78 (0,0,0,(0,replicate 8 0,replicate 8 0),(0,0,0),replicate 8 0,replicate 8 0,(),(0,0,0),replicate 8 0,replicate 8 0,false,replicate 8 (0,(0,0,0),(0,0,0),replicate 8 0,false),0)),(5061,.var 183 O183 (t7.2.1,6102)),(6102,.row 48 S48 t7.2.2)] [(2,⟨[.v .unit,.v (.arr 3 (.arr 2 S39))],vb t7.1,some ([5061,1000],[(0,.var 183 O183 (t7.2.1,1000)),(1000,.row 48 S48 t7.2.2)])⟩)] [] 5062 rfl (by kernel_rfl) (cc (W_core_under_emit h9) c0) (run_renF (ρ':=[(4,.ptr 5040 [] 0),(7,.ptr 5061 [] 0),(11,vb t7.1)]) (H':=[(1000,.row 48 S48 t7.2.2),(5040,.var 78 Z78 (0,0,0,(0,replicate 8 0,replicate 8 0),(0,0,0),replicate 8 0,replicate 8 0,(),(0,0,0),replicate 8 0,replicate 8 0,false,replicate 8 (0,(0,0,0),(0,0,0),replicate 8 0,false),0)),(5061,.var 183 O183 (t7.2.1,1000))]) 6102 1000 rfl (by kernel_rfl) rfl rfl (by kernel_rfl) rfl (sq rfl (rG [(4,.ptr 5040 [] 0),(5,vb t7.1),(6,.row 1000)] [(1000,.row 48 S48 t7.2.2),(5040,.var 78 S78 t7.2.1)] [] [] 5062 rfl rfl (by kernel_rfl) (cc (show (.row 1000:AVal)=(.row 1000) from rfl) c0) ?_)))
   obtain rfl:=inj F0
   refine run_frz (ρ':=[(4,.ptr 5040 [] 0),(5,vb t7.1),(6,.v (.sl S48) t7.2.2)]) (H':=[(5040,.var 78 S78 t7.2.1)]) 1000 rfl rfl rfl (by kernel_rfl) (by kernel_rfl) ?_
   exact ret_pure (q:=[.v S78 t7.2.1,vb t7.1,.v (.sl S48) t7.2.2]) [S78,.bool,(.sl S48)] rfl rfl (by kernel_rfl)
  refine run_if rfl rfl (fun h10=>?_) (fun h10=>?_)
  ·replace F1:=ift h10 F1
   refine sq rfl ?_
   obtain ⟨t8,h11,F1⟩:=obd F1
   refine rG [(3,.ptr 5020 [] 0),(4,.ptr 5040 [] 0),(7,.ptr 5061 [] 0),(8,.ptr 5502 [] 0),(9,.ptr 5683 [] 0),(10,vb t8.2)] [(1000,.row 48 S48 t1.2),(5020,.var 42 (.arr 3 (.arr 2 S39)) x1),(5040,.var 78 Z78 (0,0,0,(0,replicate 8 0,replicate 8 0),(0,0,0),replicate 8 0,replicate 8 0,(),(0,0,0),replicate 8 0,replicate 8 0,false,replicate 8 (0,(0,0,0),(0,0,0),replicate 8 0,false),0)),(5061,.var 183 O183 ((t1.1.1,t1.1.2.1,t1.1.2.2.1,t3,t1.1.2.2.2.2),1000)),(5502,.var 46 (.arr 8 (.int .u32)) t4),(5683,.var 36 S36 t8.1)] [(5,⟨[.v S78,.v (.arr 8 (.int .u32))],.tup [.v S36 t8.1,vb t8.2],none⟩)] [] 5503 rfl rfl (by kernel_rfl) (cc (W_gather_Propose h11) (cc (show (.v S78 (t1.1.1,t1.1.2.1,t1.1.2.2.1,t3,t1.1.2.2.2.2):AVal)=(.v S78 (t1.1.1,t1.1.2.1,t1.1.2.2.1,t3,t1.1.2.2.2.2)) from rfl) (cc (show (.v (.arr 8 (.int .u32)) t4:AVal)=(.v (.arr 8 (.int .u32)) t4) from rfl) c0))) (sq rfl (rg [(3,.ptr 5020 [] 0),(4,.ptr 5040 [] 0),(7,.ptr 5061 [] 0),(8,.ptr 5502 [] 0),(9,.ptr 5683 [] 0),(65,vb t8.2)] [(1000,.row 48 S48 t1.2),(5020,.var 42 (.arr 3 (.arr 2 S39)) x1),(5040,.var 78 Z78 (0,0,0,(0,replicate 8 0,replicate 8 0),(0,0,0),replicate 8 0,replicate 8 0,(),(0,0,0),replicate 8 0,replicate 8 0,false,replicate 8 (0,(0,0,0),(0,0,0),replicate 8 0,false),0)),(5061,.var 183 O183 ((t1.1.1,t1.1.2.1,t1.1.2.2.1,t3,t1.1.2.2.2.2),1000)),(5502,.var 46 (.arr 8 (.int .u32)) t4),(5683,.var 36 S36 t8.1)] [] [] 5684 rfl (by kernel_rfl) c0 ?_))
   refine run_if rfl rfl (fun h12=>?_) (fun h12=>?_)
   ·replace F1:=ift h12 F1
    refine sq rfl (rg [(3,.ptr 5020 [] 0),(4,.ptr 5040 [] 0),(7,.ptr 5061 [] 0),(8,.ptr 5502 [] 0),(9,.ptr 5683 [] 0)] [(1000,.row 48 S48 t1.2),(5020,.var 42 (.arr 3 (.arr 2 S39)) x1),(5040,.var 78 Z78 (0,0,0,(0,replicate 8 0,replicate 8 0),(0,0,0),replicate 8 0,replicate 8 0,(),(0,0,0),replicate 8 0,replicate 8 0,false,replicate 8 (0,(0,0,0),(0,0,0),replicate 8 0,false),0)),(5061,.var 183 O183 ((t1.1.1,t1.1.2.1,t1.1.2.2.1,t3,t1.1.2.2.2.2.1,t1.1.2.2.2.2.2.1,t1.1.2.2.2.2.2.2.1,t1.1.2.2.2.2.2.2.2.1,t1.1.2.2.2.2.2.2.2.2.1,t1.1.2.2.2.2.2.2.2.2.2.1,t1.1.2.2.2.2.2.2.2.2.2.2.1,t1.1.2.2.2.2.2.2.2.2.2.2.2.1,t1.1.2.2.2.2.2.2.2.2.2.2.2.2.1,t8.1.1),1000)),(5502,.var 46 (.arr 8 (.int .u32)) t4),(5683,.var 36 S36 t8.1)] [] [] 5684 rfl (by kernel_rfl) c0 ?_)
    obtain ⟨t9,h13,F1⟩:=obd F1
    refine rg [(3,.ptr 5020 [] 0),(4,.ptr 5040 [] 0),(7,.ptr 5061 [] 0)] [(5020,.var 42 (.arr 3 (.arr 2 S39)) x1),(5040,.var 78 Z78 (0,0,0,(0,replicate 8 0,replicate 8 0),(0,0,0),replicate 8 0,replicate 8 0,(),(0,0,0),replicate 8 0,replicate 8 0,false,replicate 8 (0,(0,0,0),(0,0,0),replicate 8 0,false),0)),(5061,.var 183 O183 (t9.1,6744)),(6744,.row 48 S48 t9.2)] [(3,⟨[.v .unit,.v S36,.v (.arr 8 (.int .u32))],.tup [],some ([5061,1000],[(0,.var 183 O183 (t9.1,1000)),(1000,.row 48 S48 t9.2)])⟩)] [] 5684 rfl (by kernel_rfl) (cc (W_core_under_promise h13) c0) (run_renF (ρ':=[(3,.ptr 5020 [] 0),(4,.ptr 5040 [] 0),(7,.ptr 5061 [] 0)]) (H':=[(1000,.row 48 S48 t9.2),(5020,.var 42 (.arr 3 (.arr 2 S39)) x1),(5040,.var 78 Z78 (0,0,0,(0,replicate 8 0,replicate 8 0),(0,0,0),replicate 8 0,replicate 8 0,(),(0,0,0),replicate 8 0,replicate 8 0,false,replicate 8 (0,(0,0,0),(0,0,0),replicate 8 0,false),0)),(5061,.var 183 O183 (t9.1,1000))]) 6744 1000 rfl (by kernel_rfl) rfl rfl (by kernel_rfl) rfl ?_)
    exact J1_0 _ (inj F1).symm
   ·replace F1:=ifn h12 F1
    refine sk rfl (tm (ρ':=[(3,.ptr 5020 [] 0),(4,.ptr 5040 [] 0),(7,.ptr 5061 [] 0)]) (H':=[(1000,.row 48 S48 t1.2),(5020,.var 42 (.arr 3 (.arr 2 S39)) x1),(5040,.var 78 Z78 (0,0,0,(0,replicate 8 0,replicate 8 0),(0,0,0),replicate 8 0,replicate 8 0,(),(0,0,0),replicate 8 0,replicate 8 0,false,replicate 8 (0,(0,0,0),(0,0,0),replicate 8 0,false),0)),(5061,.var 183 O183 ((t1.1.1,t1.1.2.1,t1.1.2.2.1,t3,t1.1.2.2.2.2),1000))]) (by kernel_rfl) (by kernel_rfl) rfl ?_)
    exact J1_0 _ (inj F1).symm
  ·replace F1:=ifn h10 F1
   refine sk rfl (tm (ρ':=[(3,.ptr 5020 [] 0),(4,.ptr 5040 [] 0),(7,.ptr 5061 [] 0)]) (H':=[(1000,.row 48 S48 t1.2),(5020,.var 42 (.arr 3 (.arr 2 S39)) x1),(5040,.var 78 Z78 (0,0,0,(0,replicate 8 0,replicate 8 0),(0,0,0),replicate 8 0,replicate 8 0,(),(0,0,0),replicate 8 0,replicate 8 0,false,replicate 8 (0,(0,0,0),(0,0,0),replicate 8 0,false),0)),(5061,.var 183 O183 ((t1.1.1,t1.1.2.1,t1.1.2.2.1,t3,t1.1.2.2.2.2),1000))]) (by kernel_rfl) (by kernel_rfl) rfl ?_)
   exact J1_0 _ (inj F1).symm
noncomputable def F_core_under_bounds_b1 (x0:S183.ty) (s1:(Int×(List Int))):Option ((Int×(List Int))⊕(List Int)) :=
 if (decide (s1.1<8))=true then if 0≤x0.1.1∧x0.1.1<((8:Nat):Int) then (if 0≤s1.1∧s1.1<((8:Nat):Int) then (some (Sum.inl (wrap .i64 (s1.1+1),List.set s1.2 (toNat s1.1) (getD x0.1.2.2.2.2.2.2.1 (toNat x0.1.1) 0)))) else none) else none else some (Sum.inr s1.2)
noncomputable def F_core_under_bounds (x0:S183.ty):Option ((List Int)×Bool) :=
 (F_core_Gathers x0.1).bind fun t1=>(if (!t1)=true then (loopO (F_core_under_bounds_b1 x0) (0,replicate 8 0)).bind (fun r1=>some (r1,true)) else (show Option Bool from if (!x0.1.2.2.2.2.2.2.2.2.2.2.2.1)=true then (F_gather_All x0.1).bind fun t3=>(some t3) else some false).bind (fun r2=>if (r2)=true then (F_gather_Target x0.1).bind fun t2=>(some (t2,true)) else some (replicate 8 0,false)))
theorem W_core_under_bounds {x0:S183.ty} {y:((List Int)×Bool)} (F0:F_core_under_bounds x0=some y):Pure Tryz.prog 170 [.fp S183 x0] (.tup [.v (.arr 8 (.int .u32)) y.1,vb y.2]):=by
 unfold F_core_under_bounds at F0
 refine pure_of_run @Tryz.call170 @Tryz.func170 rfl rfl fun w M ho=>?_
 refine sq rfl (rg [(0,.fp S183 x0),(2,.ptr 5000 [] 0)] [(5000,.var 52 (.arr 8 (.int .u32)) (replicate 8 0))] [] [] 5000 rfl (by kernel_rfl) c0 (sq rfl (rg [(0,.fp S183 x0),(2,.ptr 5000 [] 0),(4,.ptr 5001 [] 0)] [(5000,.var 52 (.arr 8 (.int .u32)) (replicate 8 0)),(5001,.var 52 (.arr 8 (.int .u32)) (replicate 8 0))] [] [] 5001 rfl (by kernel_rfl) c0 (sq rfl (bk rfl (sq rfl ?_))))))
 obtain ⟨t1,h1,F0⟩:=obd F0
 refine rg [(0,.fp S183 x0),(2,.ptr 5000 [] 0),(4,.ptr 5001 [] 0),(6,vb (!t1))] [(5000,.var 52 (.arr 8 (.int .u32)) (replicate 8 0)),(5001,.var 52 (.arr 8 (.int .u32)) (replicate 8 0))] [(4,⟨[.v S78],vb t1,none⟩)] [] 5002 rfl (by kernel_rfl) (cc (W_core_Gathers h1) c0) ?_
 refine run_if rfl rfl (fun h2=>?_) (fun h2=>?_)
 ·replace F0:=ift h2 F0
  refine sq rfl (sq rfl (rg [(0,.fp S183 x0),(2,.ptr 5000 [] 0),(4,.ptr 5001 [] 0),(13,vi 0)] [(5000,.var 52 (.arr 8 (.int .u32)) (replicate 8 0)),(5001,.var 52 (.arr 8 (.int .u32)) (replicate 8 0))] [] [] 5002 rfl (by kernel_rfl) c0 (bk rfl ?_)))
  obtain ⟨r1,hl1,F0⟩:=obd F0
  refine run_cutx 1 rfl (fun r1'=>r1=r1') (fun r1=>[(2,.ptr 5000 [] 0),(4,.ptr 5001 [] 0)]) (fun r1=>[(5000,.var 52 (.arr 8 (.int .u32)) (replicate 8 0)),(5001,.var 52 (.arr 8 (.int .u32)) r1)]) (fun r1' h3=>?_) (fun J1_0=>?_)
  ·subst h3
   refine sq rfl (rg [(2,.ptr 5000 [] 0),(3,vb true)] [(5000,.var 52 (.arr 8 (.int .u32)) r1)] [] [] 5002 rfl (by kernel_rfl) c0 ?_)
   obtain rfl:=inj F0
   exact ret_pure (q:=[.v (.arr 8 (.int .u32)) r1,vb true]) [(.arr 8 (.int .u32)),.bool] rfl rfl (by kernel_rfl)
  refine run_loop rfl (run_loopO hl1 (fun s1=>[(0,.fp S183 x0),(2,.ptr 5000 [] 0),(4,.ptr 5001 [] 0),(13,vi s1.1)]) (fun s1=>[(5000,.var 52 (.arr 8 (.int .u32)) (replicate 8 0)),(5001,.var 52 (.arr 8 (.int .u32)) s1.2)]) rfl rfl (fun s1 o1 F1 ih1 hr1=>?_))
  unfold F_core_under_bounds_b1 at F1
  refine run_again (sq rfl (rg [(0,.fp S183 x0),(2,.ptr 5000 [] 0),(4,.ptr 5001 [] 0),(13,vi s1.1),(14,vb (decide (s1.1<8)))] [(5000,.var 52 (.arr 8 (.int .u32)) (replicate 8 0)),(5001,.var 52 (.arr 8 (.int .u32)) s1.2)] [] [] 5002 rfl (by kernel_rfl) c0 (sq rfl ?_)))
  refine run_if rfl rfl (fun h4=>?_) (fun h4=>?_)
  ·replace F1:=ift h4 F1
   refine sk rfl (sq rfl (bk rfl (sq rfl (rg [(0,.fp S183 x0),(2,.ptr 5000 [] 0),(4,.ptr 5001 [] 0),(5,vi s1.1),(13,vi s1.1)] [(5000,.var 52 (.arr 8 (.int .u32)) (replicate 8 0)),(5001,.var 52 (.arr 8 (.int .u32)) s1.2)] [] [] 5002 rfl (by kernel_rfl) c0 ?_))))
   obtain ⟨h5,F1⟩:=ifg F1
   obtain ⟨h6,F1⟩:=ifg F1
   refine rG [(0,.fp S183 x0),(2,.ptr 5000 [] 0),(4,.ptr 5001 [] 0),(13,vi s1.1)] [(5000,.var 52 (.arr 8 (.int .u32)) (replicate 8 0)),(5001,.var 52 (.arr 8 (.int .u32)) (List.set s1.2 (toNat s1.1) (getD x0.1.2.2.2.2.2.2.1 (toNat x0.1.1) 0)))] [] [] 5002 rfl rfl (by kernel_rfl) (cc h5 (cc h6 (cc (show offP (.arr 8 (.int .u32)) [.i (toNat s1.1)]=(0+toNat s1.1*1) from offJ (p:=[]) (q:=[]) rfl (by kernel_rfl) (by kernel_rfl) (by kernel_rfl)) (cc (oo h6 trivial) c0)))) (eb (rg [(0,.fp S183 x0),(2,.ptr 5000 [] 0),(4,.ptr 5001 [] 0),(13,vi (wrap .i64 (s1.1+1)))] [(5000,.var 52 (.arr 8 (.int .u32)) (replicate 8 0)),(5001,.var 52 (.arr 8 (.int .u32)) (List.set s1.2 (toNat s1.1) (getD x0.1.2.2.2.2.2.2.1 (toNat x0.1.1) 0)))] [] [] 5002 rfl (by kernel_rfl) c0 ?_))
   exact ih1 _ (inj F1).symm
  ·replace F1:=ifn h4 F1
   refine run_exit rfl rfl (tm (ρ':=[(2,.ptr 5000 [] 0),(4,.ptr 5001 [] 0)]) (H':=[(5000,.var 52 (.arr 8 (.int .u32)) (replicate 8 0)),(5001,.var 52 (.arr 8 (.int .u32)) s1.2)]) (by kernel_rfl) (by kernel_rfl) rfl ?_)
   exact J1_0 _ (inrI hr1 F1).symm
 ·replace F0:=ifn h2 F0
  refine sq rfl ?_
  obtain ⟨r2,F1,F0⟩:=obd F0
  refine run_cut (fun r2'=>r2=r2') (fun r2=>[(0,.fp S183 x0),(2,.ptr 5000 [] 0),(4,.ptr 5001 [] 0),(31,vb r2)]) (fun r2=>[(5000,.var 52 (.arr 8 (.int .u32)) (replicate 8 0)),(5001,.var 52 (.arr 8 (.int .u32)) (replicate 8 0))]) (fun r2' h7=>?_) (fun J2_0=>?_)
  ·subst h7
   refine run_if rfl rfl (fun h8=>?_) (fun h8=>?_)
   ·replace F0:=ift h8 F0
    refine sq rfl ?_
    obtain ⟨t2,h9,F0⟩:=obd F0
    refine rg [(2,.ptr 5000 [] 0),(3,vb true)] [(5000,.var 52 (.arr 8 (.int .u32)) t2)] [(4,⟨[.v S78],.v (.arr 8 (.int .u32)) t2,none⟩)] [] 5002 rfl (by kernel_rfl) (cc (W_gather_Target h9) c0) ?_
    obtain rfl:=inj F0
    exact ret_pure (q:=[.v (.arr 8 (.int .u32)) t2,vb true]) [(.arr 8 (.int .u32)),.bool] rfl rfl (by kernel_rfl)
   ·replace F0:=ifn h8 F0
    refine sk rfl (eb (sq rfl (rg [(2,.ptr 5000 [] 0),(3,vb false)] [(5000,.var 52 (.arr 8 (.int .u32)) (replicate 8 0))] [] [] 5002 rfl (by kernel_rfl) c0 ?_)))
    obtain rfl:=inj F0
    exact ret_pure (q:=[.v (.arr 8 (.int .u32)) (replicate 8 0),vb false]) [(.arr 8 (.int .u32)),.bool] rfl rfl (by kernel_rfl)
  rcases Bool.eq_false_or_eq_true (!x0.1.2.2.2.2.2.2.2.2.2.2.2.1) with h10|h10
  ·replace F1:=ift h10 F1
   obtain ⟨t3,h11,F1⟩:=obd F1
   refine rg [(0,.fp S183 x0),(2,.ptr 5000 [] 0),(4,.ptr 5001 [] 0),(31,vb t3)] [(5000,.var 52 (.arr 8 (.int .u32)) (replicate 8 0)),(5001,.var 52 (.arr 8 (.int .u32)) (replicate 8 0))] [(11,⟨[.v S78],vb t3,none⟩)] [(6,true)] 5002 rfl (by kernel_rfl) (cc h10 (cc (W_gather_All h11) c0)) ?_
   exact J2_0 _ (inj F1).symm
  ·replace F1:=ifn h10 F1
   refine rg [(0,.fp S183 x0),(2,.ptr 5000 [] 0),(4,.ptr 5001 [] 0),(31,vb false)] [(5000,.var 52 (.arr 8 (.int .u32)) (replicate 8 0)),(5001,.var 52 (.arr 8 (.int .u32)) (replicate 8 0))] [] [(6,false)] 5002 rfl (by kernel_rfl) (cc h10 c0) ?_
   exact J2_0 _ (inj F1).symm
noncomputable def F_core_Receive (x0:S78.ty) (x1:S110.ty):Option (S78.ty×Bool×(List S48.ty)) :=
 (F_core_begun x0).bind fun t1=>((F_beat_Hear t1.1.2.2.2.1 (wrap .i64 x1.1) x1.2.1).bind fun t2=>((show Option Bool from (F_core_fits x0).bind fun t10=>(if (!t10)=true then some true else if ((wrap .i64 x1.1)==t1.1.1)=true then some true else some (!t2.2))).bind (fun r1=>if (r1)=true then some (t1.1,false,[]) else if 0≤x1.1∧x1.1<((8:Nat):Int) then (F_gather_Update (getD t1.1.2.2.2.2.2.2.2.2.2.2.2.2.1 (toNat x1.1) S75.dflt) x1).bind fun t3=>(if 0≤x1.1∧x1.1<((8:Nat):Int) then (F_gather_Adopt t1.1.2.2.2.2.2.2.2.2.1 t1.1.1 t1.1.2.2.1 x1).bind fun t4=>((show Option ((S78.ty×Unit)×(List S48.ty)) from if (t4)=true then (F_core_under_promise ((t1.1.1,t1.1.2.1,t1.1.2.2.1,t2.1,t1.1.2.2.2.2.1,t1.1.2.2.2.2.2.1,t1.1.2.2.2.2.2.2.1,t1.1.2.2.2.2.2.2.2.1,t1.1.2.2.2.2.2.2.2.2.1,t1.1.2.2.2.2.2.2.2.2.2.1,t1.1.2.2.2.2.2.2.2.2.2.2.1,t1.1.2.2.2.2.2.2.2.2.2.2.2.1,List.set t1.1.2.2.2.2.2.2.2.2.2.2.2.2.1 (toNat x1.1) t3,mx (mx t1.1.2.2.2.2.2.2.2.2.2.2.2.2.2 x1.2.2.2.2.2.2.2.2.1) x1.2.2.2.2.2.1.1),t1.2) x1.2.2.2.2.2.1 x1.2.2.2.2.2.2.1).bind fun t9=>(some ((t9.1,()),t9.2)) else some (((t1.1.1,t1.1.2.1,t1.1.2.2.1,t2.1,t1.1.2.2.2.2.1,t1.1.2.2.2.2.2.1,t1.1.2.2.2.2.2.2.1,t1.1.2.2.2.2.2.2.2.1,t1.1.2.2.2.2.2.2.2.2.1,t1.1.2.2.2.2.2.2.2.2.2.1,t1.1.2.2.2.2.2.2.2.2.2.2.1,t1.1.2.2.2.2.2.2.2.2.2.2.2.1,List.set t1.1.2.2.2.2.2.2.2.2.2.2.2.2.1 (toNat x1.1) t3,mx (mx t1.1.2.2.2.2.2.2.2.2.2.2.2.2.2 x1.2.2.2.2.2.2.2.2.1) x1.2.2.2.2.2.1.1),()),t1.2)).bind (fun r2=>(F_core_under_bounds (r2.1.1,r2.2)).bind fun t5=>((show Option Bool from if t5.2=true then some (Sh.eqb S36 x1.2.2.1 r2.1.1.2.2.2.2.1) else some false).bind (fun r3=>(show Option ((S78.ty×Unit)×(List S48.ty)) from if (r3)=true then (F_kept_Offer r2.1.1.2.2.2.2.2.2.2.1 r2.1.1.2.2.2.2.2.2.1 r2.1.1.2.2.2.2.2.1 x1 t5.1).bind fun t7=>((F_core_under_frames ((r2.1.1.1,r2.1.1.2.1,r2.1.1.2.2.1,r2.1.1.2.2.2.1,r2.1.1.2.2.2.2.1,r2.1.1.2.2.2.2.2.1,t7.2.1,t7.1,r2.1.1.2.2.2.2.2.2.2.2),r2.2) t7.2.2).bind fun t8=>(some ((t8.1,()),t8.2))) else some ((r2.1.1,()),r2.2)).bind (fun r4=>(F_core_under_goOn (r4.1.1,r4.2)).bind fun t6=>(some (t6.1,true,t6.2))))))) else none) else none)))
theorem W_core_Receive {x0:S78.ty} {x1:S110.ty} {y:(S78.ty×Bool×(List S48.ty))} (F0:F_core_Receive x0 x1=some y):Pure Tryz.prog 132 [.v S78 x0,.v S110 x1] (.tup [.v S78 y.1,vb y.2.1,.v (.sl S48) y.2.2]):=by
 unfold F_core_Receive at F0
 refine pure_of_run @Tryz.call132 @Tryz.func132 rfl rfl fun w M ho=>?_
 refine sq rfl (rg [(2,.ptr 5000 [] 0),(3,.ptr 5020 [] 0),(4,.ptr 5040 [] 0)] [(5000,.var 78 S78 x0),(5020,.var 110 S110 x1),(5040,.var 78 Z78 (0,0,0,(0,replicate 8 0,replicate 8 0),(0,0,0),replicate 8 0,replicate 8 0,(),(0,0,0),replicate 8 0,replicate 8 0,false,replicate 8 (0,(0,0,0),(0,0,0),replicate 8 0,false),0))] [] [] 5000 rfl (by kernel_rfl) c0 (sq rfl ?_))
 obtain ⟨t1,h1,F0⟩:=obd F0
 refine rg [(2,.ptr 5000 [] 0),(3,.ptr 5020 [] 0),(4,.ptr 5040 [] 0),(7,.ptr 5061 [] 0)] [(5000,.var 78 S78 x0),(5020,.var 110 S110 x1),(5040,.var 78 Z78 (0,0,0,(0,replicate 8 0,replicate 8 0),(0,0,0),replicate 8 0,replicate 8 0,(),(0,0,0),replicate 8 0,replicate 8 0,false,replicate 8 (0,(0,0,0),(0,0,0),replicate 8 0,false),0)),(5061,.var 183 O183 (t1.1,8621)),(8621,.row 48 S48 t1.2)] [(1,⟨[.v S78],.ptr 0 [] 0,some ([],[(3560,.row 48 S48 t1.2),(0,.var 183 O183 (t1.1,3560))])⟩)] [] 5041 rfl (by kernel_rfl) (cc (W_core_begun h1) c0) (run_renF (ρ':=[(2,.ptr 5000 [] 0),(3,.ptr 5020 [] 0),(4,.ptr 5040 [] 0),(7,.ptr 5061 [] 0)]) (H':=[(1000,.row 48 S48 t1.2),(5000,.var 78 S78 x0),(5020,.var 110 S110 x1),(5040,.var 78 Z78 (0,0,0,(0,replicate 8 0,replicate 8 0),(0,0,0),replicate 8 0,replicate 8 0,(),(0,0,0),replicate 8 0,replicate 8 0,false,replicate 8 (0,(0,0,0),(0,0,0),replicate 8 0,false),0)),(5061,.var 183 O183 (t1.1,1000))]) 8621 1000 rfl (by kernel_rfl) rfl rfl (by kernel_rfl) rfl (sq rfl ?_))
 obtain ⟨t2,h2,F0⟩:=obd F0
 refine rG [(2,.ptr 5000 [] 0),(3,.ptr 5020 [] 0),(4,.ptr 5040 [] 0),(7,.ptr 5061 [] 0),(8,.ptr 5342 [] 0),(9,vb t2.2)] [(1000,.row 48 S48 t1.2),(5000,.var 78 S78 x0),(5020,.var 110 S110 x1),(5040,.var 78 Z78 (0,0,0,(0,replicate 8 0,replicate 8 0),(0,0,0),replicate 8 0,replicate 8 0,(),(0,0,0),replicate 8 0,replicate 8 0,false,replicate 8 (0,(0,0,0),(0,0,0),replicate 8 0,false),0)),(5061,.var 183 O183 (t1.1,1000)),(5342,.var 72 S72 t2.1)] [(10,⟨[.v S72,.v (.int .i64),.v (.int .u32)],.tup [.v S72 t2.1,vb t2.2],none⟩)] [] 5062 rfl rfl (by kernel_rfl) (cc (W_beat_Hear h2) (cc (show (.v S72 t1.1.2.2.2.1:AVal)=(.v S72 t1.1.2.2.2.1) from rfl) (cc (show (.v (.int .u32) x1.1:AVal)=(.v (.int .u32) x1.1) from rfl) (cc (show (.v (.int .u32) x1.2.1:AVal)=(.v (.int .u32) x1.2.1) from rfl) c0)))) (sq rfl (sq rfl ?_))
 obtain ⟨r1,F1,F0⟩:=obd F0
 refine run_cut (fun r1'=>r1=r1') (fun r1=>[(3,.ptr 5020 [] 0),(4,.ptr 5040 [] 0),(7,.ptr 5061 [] 0),(8,.ptr 5342 [] 0),(46,vb r1)]) (fun r1=>[(1000,.row 48 S48 t1.2),(5020,.var 110 S110 x1),(5040,.var 78 Z78 (0,0,0,(0,replicate 8 0,replicate 8 0),(0,0,0),replicate 8 0,replicate 8 0,(),(0,0,0),replicate 8 0,replicate 8 0,false,replicate 8 (0,(0,0,0),(0,0,0),replicate 8 0,false),0)),(5061,.var 183 O183 (t1.1,1000)),(5342,.var 72 S72 t2.1)]) (fun r1' h3=>?_) (fun J1_0=>?_)
 ·subst h3
  refine run_if rfl rfl (fun h4=>?_) (fun h4=>?_)
  ·replace F0:=ift h4 F0
   refine sq rfl (rg [(4,.ptr 5040 [] 0),(5,vb false),(6,.v (.nl .any) ())] [(5040,.var 78 S78 t1.1)] [] [] 5343 rfl (by kernel_rfl) c0 ?_)
   obtain rfl:=inj F0
   exact ret_pure (q:=[.v S78 t1.1,vb false,.v (.sl S48) []]) [S78,.bool,(.sl S48)] rfl rfl (by kernel_rfl)
  ·replace F0:=ifn h4 F0
   refine sk rfl (sq rfl (rg [(3,.ptr 5020 [] 0),(4,.ptr 5040 [] 0),(7,.ptr 5061 [] 0)] [(1000,.row 48 S48 t1.2),(5020,.var 110 S110 x1),(5040,.var 78 Z78 (0,0,0,(0,replicate 8 0,replicate 8 0),(0,0,0),replicate 8 0,replicate 8 0,(),(0,0,0),replicate 8 0,replicate 8 0,false,replicate 8 (0,(0,0,0),(0,0,0),replicate 8 0,false),0)),(5061,.var 183 O183 ((t1.1.1,t1.1.2.1,t1.1.2.2.1,t2.1,t1.1.2.2.2.2),1000))] [] [] 5343 rfl (by kernel_rfl) c0 (sq rfl ?_)))
   obtain ⟨h5,F0⟩:=ifg F0
   obtain ⟨t3,h6,F0⟩:=obd F0
   obtain ⟨h7,F0⟩:=ifg F0
   refine rG [(3,.ptr 5020 [] 0),(4,.ptr 5040 [] 0),(7,.ptr 5061 [] 0)] [(1000,.row 48 S48 t1.2),(5020,.var 110 S110 x1),(5040,.var 78 Z78 (0,0,0,(0,replicate 8 0,replicate 8 0),(0,0,0),replicate 8 0,replicate 8 0,(),(0,0,0),replicate 8 0,replicate 8 0,false,replicate 8 (0,(0,0,0),(0,0,0),replicate 8 0,false),0)),(5061,.var 183 O183 ((t1.1.1,t1.1.2.1,t1.1.2.2.1,t2.1,t1.1.2.2.2.2.1,t1.1.2.2.2.2.2.1,t1.1.2.2.2.2.2.2.1,t1.1.2.2.2.2.2.2.2.1,t1.1.2.2.2.2.2.2.2.2.1,t1.1.2.2.2.2.2.2.2.2.2.1,t1.1.2.2.2.2.2.2.2.2.2.2.1,t1.1.2.2.2.2.2.2.2.2.2.2.2.1,List.set t1.1.2.2.2.2.2.2.2.2.2.2.2.2.1 (toNat x1.1) t3,t1.1.2.2.2.2.2.2.2.2.2.2.2.2.2),1000))] [(12,⟨[.v S75,.v S110],.v S75 t3,none⟩)] [] 5062 rfl rfl (by kernel_rfl) (cc h5 (cc (show offP O183 [.u,.l,.u,.r,.r,.r,.r,.r,.r,.r,.r,.r,.r,.r,.r,.l,.i (toNat x1.1)]=(60+toNat x1.1*16) from offJ (p:=[.u,.l,.u,.r,.r,.r,.r,.r,.r,.r,.r,.r,.r,.r,.r,.l]) (q:=[]) rfl (by kernel_rfl) (by kernel_rfl) (by kernel_rfl)) (cc (oo h5 trivial) (cc (W_gather_Update h6) (cc h7 (cc (show offP O183 [.u,.l,.u,.r,.r,.r,.r,.r,.r,.r,.r,.r,.r,.r,.r,.l,.i (toNat x1.1)]=(60+toNat x1.1*16) from offJ (p:=[.u,.l,.u,.r,.r,.r,.r,.r,.r,.r,.r,.r,.r,.r,.r,.l]) (q:=[]) rfl (by kernel_rfl) (by kernel_rfl) (by kernel_rfl)) (cc (oo h7 trivial) c0))))))) (sq rfl (rG [(3,.ptr 5020 [] 0),(4,.ptr 5040 [] 0),(7,.ptr 5061 [] 0)] [(1000,.row 48 S48 t1.2),(5020,.var 110 S110 x1),(5040,.var 78 Z78 (0,0,0,(0,replicate 8 0,replicate 8 0),(0,0,0),replicate 8 0,replicate 8 0,(),(0,0,0),replicate 8 0,replicate 8 0,false,replicate 8 (0,(0,0,0),(0,0,0),replicate 8 0,false),0)),(5061,.var 183 O183 ((t1.1.1,t1.1.2.1,t1.1.2.2.1,t2.1,t1.1.2.2.2.2.1,t1.1.2.2.2.2.2.1,t1.1.2.2.2.2.2.2.1,t1.1.2.2.2.2.2.2.2.1,t1.1.2.2.2.2.2.2.2.2.1,t1.1.2.2.2.2.2.2.2.2.2.1,t1.1.2.2.2.2.2.2.2.2.2.2.1,t1.1.2.2.2.2.2.2.2.2.2.2.2.1,List.set t1.1.2.2.2.2.2.2.2.2.2.2.2.2.1 (toNat x1.1) t3,mx (mx t1.1.2.2.2.2.2.2.2.2.2.2.2.2.2 x1.2.2.2.2.2.2.2.2.1) x1.2.2.2.2.2.1.1),1000))] [] [] 5062 rfl rfl (by kernel_rfl) c0 (sq rfl (sq rfl ?_))))
   obtain ⟨t4,h8,F0⟩:=obd F0
   refine rG [(3,.ptr 5020 [] 0),(4,.ptr 5040 [] 0),(7,.ptr 5061 [] 0),(104,vb t4)] [(1000,.row 48 S48 t1.2),(5020,.var 110 S110 x1),(5040,.var 78 Z78 (0,0,0,(0,replicate 8 0,replicate 8 0),(0,0,0),replicate 8 0,replicate 8 0,(),(0,0,0),replicate 8 0,replicate 8 0,false,replicate 8 (0,(0,0,0),(0,0,0),replicate 8 0,false),0)),(5061,.var 183 O183 ((t1.1.1,t1.1.2.1,t1.1.2.2.1,t2.1,t1.1.2.2.2.2.1,t1.1.2.2.2.2.2.1,t1.1.2.2.2.2.2.2.1,t1.1.2.2.2.2.2.2.2.1,t1.1.2.2.2.2.2.2.2.2.1,t1.1.2.2.2.2.2.2.2.2.2.1,t1.1.2.2.2.2.2.2.2.2.2.2.1,t1.1.2.2.2.2.2.2.2.2.2.2.2.1,List.set t1.1.2.2.2.2.2.2.2.2.2.2.2.2.1 (toNat x1.1) t3,mx (mx t1.1.2.2.2.2.2.2.2.2.2.2.2.2.2 x1.2.2.2.2.2.2.2.2.1) x1.2.2.2.2.2.1.1),1000))] [(16,⟨[.v S36,.v (.int .i64),.v (.int .u32),.v S110],vb t4,none⟩)] [] 5062 rfl rfl (by kernel_rfl) (cc (W_gather_Adopt h8) c0) ?_
   obtain ⟨r2,F1,F0⟩:=obd F0
   refine run_cut (fun r2'=>r2=r2') (fun r2=>[(3,.ptr 5020 [] 0),(4,.ptr 5040 [] 0),(7,.ptr 5061 [] 0)]) (fun r2=>[(1000,.row 48 S48 r2.2),(5020,.var 110 S110 x1),(5040,.var 78 Z78 (0,0,0,(0,replicate 8 0,replicate 8 0),(0,0,0),replicate 8 0,replicate 8 0,(),(0,0,0),replicate 8 0,replicate 8 0,false,replicate 8 (0,(0,0,0),(0,0,0),replicate 8 0,false),0)),(5061,.var 183 O183 (r2.1.1,1000))]) (fun r2' h9=>?_) (fun J2_0=>?_)
   ·subst h9
    refine sq rfl (sq rfl ?_)
    obtain ⟨t5,h10,F0⟩:=obd F0
    refine rg [(3,.ptr 5020 [] 0),(4,.ptr 5040 [] 0),(7,.ptr 5061 [] 0),(10,.ptr 5162 [] 0),(11,vb t5.2)] [(1000,.row 48 S48 r2.2),(5020,.var 110 S110 x1),(5040,.var 78 Z78 (0,0,0,(0,replicate 8 0,replicate 8 0),(0,0,0),replicate 8 0,replicate 8 0,(),(0,0,0),replicate 8 0,replicate 8 0,false,replicate 8 (0,(0,0,0),(0,0,0),replicate 8 0,false),0)),(5061,.var 183 O183 (r2.1.1,1000)),(5162,.var 52 (.arr 8 (.int .u32)) t5.1)] [(1,⟨[.fp S183],.tup [.v (.arr 8 (.int .u32)) t5.1,vb t5.2],none⟩)] [] 5062 rfl (by kernel_rfl) (cc (W_core_under_bounds h10) c0) (sq rfl ?_)
    obtain ⟨r3,F1,F0⟩:=obd F0
    refine run_cut (fun r3'=>r3=r3') (fun r3=>[(3,.ptr 5020 [] 0),(4,.ptr 5040 [] 0),(7,.ptr 5061 [] 0),(10,.ptr 5162 [] 0),(126,vb r3)]) (fun r3=>[(1000,.row 48 S48 r2.2),(5020,.var 110 S110 x1),(5040,.var 78 Z78 (0,0,0,(0,replicate 8 0,replicate 8 0),(0,0,0),replicate 8 0,replicate 8 0,(),(0,0,0),replicate 8 0,replicate 8 0,false,replicate 8 (0,(0,0,0),(0,0,0),replicate 8 0,false),0)),(5061,.var 183 O183 (r2.1.1,1000)),(5162,.var 52 (.arr 8 (.int .u32)) t5.1)]) (fun r3' h11=>?_) (fun J3_0=>?_)
    ·subst h11
     obtain ⟨r4,F1,F0⟩:=obd F0
     refine run_cut (fun r4'=>r4=r4') (fun r4=>[(4,.ptr 5040 [] 0),(7,.ptr 5061 [] 0)]) (fun r4=>[(1000,.row 48 S48 r4.2),(5040,.var 78 Z78 (0,0,0,(0,replicate 8 0,replicate 8 0),(0,0,0),replicate 8 0,replicate 8 0,(),(0,0,0),replicate 8 0,replicate 8 0,false,replicate 8 (0,(0,0,0),(0,0,0),replicate 8 0,false),0)),(5061,.var 183 O183 (r4.1.1,1000))]) (fun r4' h12=>?_) (fun J4_0=>?_)
     ·subst h12
      refine sq rfl ?_
      obtain ⟨t6,h13,F0⟩:=obd F0
      refine rg [(4,.ptr 5040 [] 0),(7,.ptr 5061 [] 0)] [(5040,.var 78 Z78 (0,0,0,(0,replicate 8 0,replicate 8 0),(0,0,0),replicate 8 0,replicate 8 0,(),(0,0,0),replicate 8 0,replicate 8 0,false,replicate 8 (0,(0,0,0),(0,0,0),replicate 8 0,false),0)),(5061,.var 183 O183 (t6.1,6082)),(6082,.row 48 S48 t6.2)] [(1,⟨[.v .unit],.tup [],some ([5061,1000],[(0,.var 183 O183 (t6.1,1000)),(1000,.row 48 S48 t6.2)])⟩)] [] 5062 rfl (by kernel_rfl) (cc (W_core_under_goOn h13) c0) (run_renF (ρ':=[(4,.ptr 5040 [] 0),(7,.ptr 5061 [] 0)]) (H':=[(1000,.row 48 S48 t6.2),(5040,.var 78 Z78 (0,0,0,(0,replicate 8 0,replicate 8 0),(0,0,0),replicate 8 0,replicate 8 0,(),(0,0,0),replicate 8 0,replicate 8 0,false,replicate 8 (0,(0,0,0),(0,0,0),replicate 8 0,false),0)),(5061,.var 183 O183 (t6.1,1000))]) 6082 1000 rfl (by kernel_rfl) rfl rfl (by kernel_rfl) rfl (sq rfl (rG [(4,.ptr 5040 [] 0),(5,vb true),(6,.row 1000)] [(1000,.row 48 S48 t6.2),(5040,.var 78 S78 t6.1)] [] [] 5062 rfl rfl (by kernel_rfl) (cc (show (.row 1000:AVal)=(.row 1000) from rfl) c0) ?_)))
      obtain rfl:=inj F0
      refine run_frz (ρ':=[(4,.ptr 5040 [] 0),(5,vb true),(6,.v (.sl S48) t6.2)]) (H':=[(5040,.var 78 S78 t6.1)]) 1000 rfl rfl rfl (by kernel_rfl) (by kernel_rfl) ?_
      exact ret_pure (q:=[.v S78 t6.1,vb true,.v (.sl S48) t6.2]) [S78,.bool,(.sl S48)] rfl rfl (by kernel_rfl)
     refine run_if rfl rfl (fun h14=>?_) (fun h14=>?_)
     ·replace F1:=ift h14 F1
      refine sq rfl (rg [(3,.ptr 5020 [] 0),(4,.ptr 5040 [] 0),(7,.ptr 5061 [] 0),(10,.ptr 5162 [] 0)] [(1000,.row 48 S48 r2.2),(5020,.var 110 S110 x1),(5040,.var 78 Z78 (0,0,0,(0,replicate 8 0,replicate 8 0),(0,0,0),replicate 8 0,replicate 8 0,(),(0,0,0),replicate 8 0,replicate 8 0,false,replicate 8 (0,(0,0,0),(0,0,0),replicate 8 0,false),0)),(5061,.var 183 O183 (r2.1.1,1000)),(5162,.var 52 (.arr 8 (.int .u32)) t5.1)] [] [] 5163 rfl (by kernel_rfl) c0 (sq rfl ?_))
      obtain ⟨t7,h15,F1⟩:=obd F1
      refine rG [(4,.ptr 5040 [] 0),(7,.ptr 5061 [] 0),(12,.v (.sl S44) t7.2.2)] [(1000,.row 48 S48 r2.2),(5040,.var 78 Z78 (0,0,0,(0,replicate 8 0,replicate 8 0),(0,0,0),replicate 8 0,replicate 8 0,(),(0,0,0),replicate 8 0,replicate 8 0,false,replicate 8 (0,(0,0,0),(0,0,0),replicate 8 0,false),0)),(5061,.var 183 O183 ((r2.1.1.1,r2.1.1.2.1,r2.1.1.2.2.1,r2.1.1.2.2.2.1,r2.1.1.2.2.2.2.1,r2.1.1.2.2.2.2.2.1,t7.2.1,t7.1,r2.1.1.2.2.2.2.2.2.2.2),1000))] [(19,⟨[.v (.sl S44),.v (.arr 8 (.int .u32)),.v (.arr 8 (.int .u32)),.v S110,.v (.arr 8 (.int .u32))],.tup [.v (.sl S44) t7.1,.v (.arr 8 (.int .u32)) t7.2.1,.v (.sl S44) t7.2.2],none⟩)] [] 5163 rfl rfl (by kernel_rfl) (cc (W_kept_Offer h15) c0) ?_
      obtain ⟨t8,h16,F1⟩:=obd F1
      refine rg [(4,.ptr 5040 [] 0),(7,.ptr 5061 [] 0)] [(5040,.var 78 Z78 (0,0,0,(0,replicate 8 0,replicate 8 0),(0,0,0),replicate 8 0,replicate 8 0,(),(0,0,0),replicate 8 0,replicate 8 0,false,replicate 8 (0,(0,0,0),(0,0,0),replicate 8 0,false),0)),(5061,.var 183 O183 (t8.1,6102)),(6102,.row 48 S48 t8.2)] [(2,⟨[.v .unit,.v (.sl S44)],.tup [],some ([5061,1000],[(0,.var 183 O183 (t8.1,1000)),(1000,.row 48 S48 t8.2)])⟩)] [] 5062 rfl (by kernel_rfl) (cc (W_core_under_frames h16) c0) (run_renF (ρ':=[(4,.ptr 5040 [] 0),(7,.ptr 5061 [] 0)]) (H':=[(1000,.row 48 S48 t8.2),(5040,.var 78 Z78 (0,0,0,(0,replicate 8 0,replicate 8 0),(0,0,0),replicate 8 0,replicate 8 0,(),(0,0,0),replicate 8 0,replicate 8 0,false,replicate 8 (0,(0,0,0),(0,0,0),replicate 8 0,false),0)),(5061,.var 183 O183 (t8.1,1000))]) 6102 1000 rfl (by kernel_rfl) rfl rfl (by kernel_rfl) rfl ?_)
      exact J4_0 _ (inj F1).symm
     ·replace F1:=ifn h14 F1
      refine sk rfl (tm (ρ':=[(4,.ptr 5040 [] 0),(7,.ptr 5061 [] 0)]) (H':=[(1000,.row 48 S48 r2.2),(5040,.var 78 Z78 (0,0,0,(0,replicate 8 0,replicate 8 0),(0,0,0),replicate 8 0,replicate 8 0,(),(0,0,0),replicate 8 0,replicate 8 0,false,replicate 8 (0,(0,0,0),(0,0,0),replicate 8 0,false),0)),(5061,.var 183 O183 (r2.1.1,1000))]) (by kernel_rfl) (by kernel_rfl) rfl ?_)
      exact J4_0 _ (inj F1).symm
    rcases Bool.eq_false_or_eq_true t5.2 with h17|h17
    ·replace F1:=ift h17 F1
     refine rG [(3,.ptr 5020 [] 0),(4,.ptr 5040 [] 0),(7,.ptr 5061 [] 0),(10,.ptr 5162 [] 0),(126,vb (Sh.eqb S36 x1.2.2.1 r2.1.1.2.2.2.2.1))] [(1000,.row 48 S48 r2.2),(5020,.var 110 S110 x1),(5040,.var 78 Z78 (0,0,0,(0,replicate 8 0,replicate 8 0),(0,0,0),replicate 8 0,replicate 8 0,(),(0,0,0),replicate 8 0,replicate 8 0,false,replicate 8 (0,(0,0,0),(0,0,0),replicate 8 0,false),0)),(5061,.var 183 O183 (r2.1.1,1000)),(5162,.var 52 (.arr 8 (.int .u32)) t5.1)] [] [(1,true)] 5163 rfl rfl (by kernel_rfl) (cc h17 c0) ?_
     exact J3_0 _ (inj F1).symm
    ·replace F1:=ifn h17 F1
     refine rG [(3,.ptr 5020 [] 0),(4,.ptr 5040 [] 0),(7,.ptr 5061 [] 0),(10,.ptr 5162 [] 0),(126,vb false)] [(1000,.row 48 S48 r2.2),(5020,.var 110 S110 x1),(5040,.var 78 Z78 (0,0,0,(0,replicate 8 0,replicate 8 0),(0,0,0),replicate 8 0,replicate 8 0,(),(0,0,0),replicate 8 0,replicate 8 0,false,replicate 8 (0,(0,0,0),(0,0,0),replicate 8 0,false),0)),(5061,.var 183 O183 (r2.1.1,1000)),(5162,.var 52 (.arr 8 (.int .u32)) t5.1)] [] [(1,false)] 5163 rfl rfl (by kernel_rfl) (cc h17 c0) ?_
     exact J3_0 _ (inj F1).symm
   refine run_if rfl rfl (fun h18=>?_) (fun h18=>?_)
   ·replace F1:=ift h18 F1
    obtain ⟨t9,h19,F1⟩:=obd F1
    refine rg [(3,.ptr 5020 [] 0),(4,.ptr 5040 [] 0),(7,.ptr 5061 [] 0)] [(5020,.var 110 S110 x1),(5040,.var 78 Z78 (0,0,0,(0,replicate 8 0,replicate 8 0),(0,0,0),replicate 8 0,replicate 8 0,(),(0,0,0),replicate 8 0,replicate 8 0,false,replicate 8 (0,(0,0,0),(0,0,0),replicate 8 0,false),0)),(5061,.var 183 O183 (t9.1,6162)),(6162,.row 48 S48 t9.2)] [(5,⟨[.v .unit,.v S36,.v (.arr 8 (.int .u32))],.tup [],some ([5061,1000],[(0,.var 183 O183 (t9.1,1000)),(1000,.row 48 S48 t9.2)])⟩)] [] 5062 rfl (by kernel_rfl) (cc (W_core_under_promise h19) c0) (run_renF (ρ':=[(3,.ptr 5020 [] 0),(4,.ptr 5040 [] 0),(7,.ptr 5061 [] 0)]) (H':=[(1000,.row 48 S48 t9.2),(5020,.var 110 S110 x1),(5040,.var 78 Z78 (0,0,0,(0,replicate 8 0,replicate 8 0),(0,0,0),replicate 8 0,replicate 8 0,(),(0,0,0),replicate 8 0,replicate 8 0,false,replicate 8 (0,(0,0,0),(0,0,0),replicate 8 0,false),0)),(5061,.var 183 O183 (t9.1,1000))]) 6162 1000 rfl (by kernel_rfl) rfl rfl (by kernel_rfl) rfl ?_)
    exact J2_0 _ (inj F1).symm
   ·replace F1:=ifn h18 F1
    refine sk rfl (tm (ρ':=[(3,.ptr 5020 [] 0),(4,.ptr 5040 [] 0),(7,.ptr 5061 [] 0)]) (H':=[(1000,.row 48 S48 t1.2),(5020,.var 110 S110 x1),(5040,.var 78 Z78 (0,0,0,(0,replicate 8 0,replicate 8 0),(0,0,0),replicate 8 0,replicate 8 0,(),(0,0,0),replicate 8 0,replicate 8 0,false,replicate 8 (0,(0,0,0),(0,0,0),replicate 8 0,false),0)),(5061,.var 183 O183 ((t1.1.1,t1.1.2.1,t1.1.2.2.1,t2.1,t1.1.2.2.2.2.1,t1.1.2.2.2.2.2.1,t1.1.2.2.2.2.2.2.1,t1.1.2.2.2.2.2.2.2.1,t1.1.2.2.2.2.2.2.2.2.1,t1.1.2.2.2.2.2.2.2.2.2.1,t1.1.2.2.2.2.2.2.2.2.2.2.1,t1.1.2.2.2.2.2.2.2.2.2.2.2.1,List.set t1.1.2.2.2.2.2.2.2.2.2.2.2.2.1 (toNat x1.1) t3,mx (mx t1.1.2.2.2.2.2.2.2.2.2.2.2.2.2 x1.2.2.2.2.2.2.2.2.1) x1.2.2.2.2.2.1.1),1000))]) (by kernel_rfl) (by kernel_rfl) rfl ?_)
    exact J2_0 _ (inj F1).symm
 obtain ⟨t10,h20,F1⟩:=obd F1
 rcases Bool.eq_false_or_eq_true (!t10) with h21|h21
 ·replace F1:=ift h21 F1
  refine rG [(3,.ptr 5020 [] 0),(4,.ptr 5040 [] 0),(7,.ptr 5061 [] 0),(8,.ptr 5342 [] 0),(46,vb true)] [(1000,.row 48 S48 t1.2),(5020,.var 110 S110 x1),(5040,.var 78 Z78 (0,0,0,(0,replicate 8 0,replicate 8 0),(0,0,0),replicate 8 0,replicate 8 0,(),(0,0,0),replicate 8 0,replicate 8 0,false,replicate 8 (0,(0,0,0),(0,0,0),replicate 8 0,false),0)),(5061,.var 183 O183 (t1.1,1000)),(5342,.var 72 S72 t2.1)] [(1,⟨[.v S78],vb t10,none⟩)] [(3,true)] 5343 rfl rfl (by kernel_rfl) (cc (W_core_fits h20) (cc h21 c0)) ?_
  exact J1_0 _ (inj F1).symm
 ·replace F1:=ifn h21 F1
  rcases Bool.eq_false_or_eq_true ((wrap .i64 x1.1)==t1.1.1) with h22|h22
  ·replace F1:=ift h22 F1
   refine rG [(3,.ptr 5020 [] 0),(4,.ptr 5040 [] 0),(7,.ptr 5061 [] 0),(8,.ptr 5342 [] 0),(46,vb true)] [(1000,.row 48 S48 t1.2),(5020,.var 110 S110 x1),(5040,.var 78 Z78 (0,0,0,(0,replicate 8 0,replicate 8 0),(0,0,0),replicate 8 0,replicate 8 0,(),(0,0,0),replicate 8 0,replicate 8 0,false,replicate 8 (0,(0,0,0),(0,0,0),replicate 8 0,false),0)),(5061,.var 183 O183 (t1.1,1000)),(5342,.var 72 S72 t2.1)] [(1,⟨[.v S78],vb t10,none⟩)] [(3,false),(14,true)] 5343 rfl rfl (by kernel_rfl) (cc (W_core_fits h20) (cc h21 (cc h22 c0))) ?_
   exact J1_0 _ (inj F1).symm
  ·replace F1:=ifn h22 F1
   refine rG [(3,.ptr 5020 [] 0),(4,.ptr 5040 [] 0),(7,.ptr 5061 [] 0),(8,.ptr 5342 [] 0),(46,vb (!t2.2))] [(1000,.row 48 S48 t1.2),(5020,.var 110 S110 x1),(5040,.var 78 Z78 (0,0,0,(0,replicate 8 0,replicate 8 0),(0,0,0),replicate 8 0,replicate 8 0,(),(0,0,0),replicate 8 0,replicate 8 0,false,replicate 8 (0,(0,0,0),(0,0,0),replicate 8 0,false),0)),(5061,.var 183 O183 (t1.1,1000)),(5342,.var 72 S72 t2.1)] [(1,⟨[.v S78],vb t10,none⟩)] [(3,false),(14,false)] 5343 rfl rfl (by kernel_rfl) (cc (W_core_fits h20) (cc h21 (cc h22 c0))) ?_
   exact J1_0 _ (inj F1).symm
noncomputable def F_core_Packet (x0:S78.ty):Option S110.ty :=
 (F_core_fits x0).bind fun t1=>(if (!t1)=true then some (wrap .u32 x0.1,x0.2.2.1,x0.2.2.2.2.1,x0.2.2.2.2.2.1,x0.2.2.2.2.2.2.1,x0.2.2.2.2.2.2.2.2.1,x0.2.2.2.2.2.2.2.2.2.1,x0.2.2.2.2.2.2.2.2.2.2.2.1,x0.2.2.2.2.2.2.2.2.2.2.2.2.2,0,replicate 3 (replicate 2 (0,0,0,0,0,[])),replicate 3 (replicate 2 (0,0,0,0,0,[])),0,0,replicate 3 (replicate 2 (0,0,0,0,0,[]))) else if 0≤x0.1∧x0.1<((8:Nat):Int) then (F_kept_Get x0.2.2.2.2.2.2.2.1 x0.1 (getD x0.2.2.2.2.2.2.1 (toNat x0.1) 0)).bind fun t2=>((show Option S110.ty from if (decide ((getD x0.2.2.2.2.2.2.1 (toNat x0.1) 0)>0))=true then (F_kept_Get x0.2.2.2.2.2.2.2.1 x0.1 (wrap .u32 ((getD x0.2.2.2.2.2.2.1 (toNat x0.1) 0)-1))).bind fun t5=>(some (wrap .u32 x0.1,x0.2.2.1,x0.2.2.2.2.1,x0.2.2.2.2.2.1,x0.2.2.2.2.2.2.1,x0.2.2.2.2.2.2.2.2.1,x0.2.2.2.2.2.2.2.2.2.1,x0.2.2.2.2.2.2.2.2.2.2.2.1,x0.2.2.2.2.2.2.2.2.2.2.2.2.2,getD x0.2.2.2.2.2.2.1 (toNat x0.1) 0,t2.1,t5.1,0,0,replicate 3 (replicate 2 (0,0,0,0,0,[])))) else some (wrap .u32 x0.1,x0.2.2.1,x0.2.2.2.2.1,x0.2.2.2.2.2.1,x0.2.2.2.2.2.2.1,x0.2.2.2.2.2.2.2.2.1,x0.2.2.2.2.2.2.2.2.2.1,x0.2.2.2.2.2.2.2.2.2.2.2.1,x0.2.2.2.2.2.2.2.2.2.2.2.2.2,getD x0.2.2.2.2.2.2.1 (toNat x0.1) 0,t2.1,replicate 3 (replicate 2 (0,0,0,0,0,[])),0,0,replicate 3 (replicate 2 (0,0,0,0,0,[])))).bind (fun r1=>(F_core_Gathers x0).bind fun t3=>((show Option S110.ty from if (t3)=true then some (r1.1,r1.2.1,r1.2.2.1,r1.2.2.2.1,x0.2.2.2.2.2.2.2.2.2.2.1,r1.2.2.2.2.2) else some r1).bind (fun r2=>(F_kept_Pick x0.2.2.2.2.2.2.2.1 x0.2.2.2.1.1).bind fun t4=>(if t4.2=true then some (r2.1,r2.2.1,r2.2.2.1,r2.2.2.2.1,r2.2.2.2.2.1,r2.2.2.2.2.2.1,r2.2.2.2.2.2.2.1,r2.2.2.2.2.2.2.2.1,r2.2.2.2.2.2.2.2.2.1,r2.2.2.2.2.2.2.2.2.2.1,r2.2.2.2.2.2.2.2.2.2.2.1,r2.2.2.2.2.2.2.2.2.2.2.2.1,wrap .u32 t4.1.1,t4.1.2) else some r2))))) else none)
theorem W_core_Packet {x0:S78.ty} {y:S110.ty} (F0:F_core_Packet x0=some y):Pure Tryz.prog 89 [.v S78 x0] (.v S110 y):=by
 unfold F_core_Packet at F0
 refine pure_of_run @Tryz.call89 @Tryz.func89 rfl rfl fun w M ho=>?_
 refine sq rfl (rg [(1,.ptr 5000 [] 0),(2,.ptr 5020 [] 0)] [(5000,.var 78 S78 x0),(5020,.var 110 S110 (0,0,(0,0,0),replicate 8 0,replicate 8 0,(0,0,0),replicate 8 0,false,0,0,replicate 3 (replicate 2 (0,0,0,0,0,[])),replicate 3 (replicate 2 (0,0,0,0,0,[])),0,0,replicate 3 (replicate 2 (0,0,0,0,0,[]))))] [] [] 5000 rfl (by kernel_rfl) c0 (sq rfl (rg [(1,.ptr 5000 [] 0),(2,.ptr 5020 [] 0),(3,.ptr 5421 [] 0)] [(5000,.var 78 S78 x0),(5020,.var 110 S110 (0,0,(0,0,0),replicate 8 0,replicate 8 0,(0,0,0),replicate 8 0,false,0,0,replicate 3 (replicate 2 (0,0,0,0,0,[])),replicate 3 (replicate 2 (0,0,0,0,0,[])),0,0,replicate 3 (replicate 2 (0,0,0,0,0,[])))),(5421,.var 110 S110 (wrap .u32 x0.1,x0.2.2.1,x0.2.2.2.2.1,x0.2.2.2.2.2.1,x0.2.2.2.2.2.2.1,x0.2.2.2.2.2.2.2.2.1,x0.2.2.2.2.2.2.2.2.2.1,x0.2.2.2.2.2.2.2.2.2.2.2.1,x0.2.2.2.2.2.2.2.2.2.2.2.2.2,0,replicate 3 (replicate 2 (0,0,0,0,0,[])),replicate 3 (replicate 2 (0,0,0,0,0,[])),0,0,replicate 3 (replicate 2 (0,0,0,0,0,[]))))] [] [] 5021 rfl (by kernel_rfl) c0 (sq rfl (sq rfl ?_)))))
 obtain ⟨t1,h1,F0⟩:=obd F0
 refine rg [(1,.ptr 5000 [] 0),(2,.ptr 5020 [] 0),(3,.ptr 5421 [] 0),(28,vb (!t1))] [(5000,.var 78 S78 x0),(5020,.var 110 S110 (0,0,(0,0,0),replicate 8 0,replicate 8 0,(0,0,0),replicate 8 0,false,0,0,replicate 3 (replicate 2 (0,0,0,0,0,[])),replicate 3 (replicate 2 (0,0,0,0,0,[])),0,0,replicate 3 (replicate 2 (0,0,0,0,0,[])))),(5421,.var 110 S110 (wrap .u32 x0.1,x0.2.2.1,x0.2.2.2.2.1,x0.2.2.2.2.2.1,x0.2.2.2.2.2.2.1,x0.2.2.2.2.2.2.2.2.1,x0.2.2.2.2.2.2.2.2.2.1,x0.2.2.2.2.2.2.2.2.2.2.2.1,x0.2.2.2.2.2.2.2.2.2.2.2.2.2,0,replicate 3 (replicate 2 (0,0,0,0,0,[])),replicate 3 (replicate 2 (0,0,0,0,0,[])),0,0,replicate 3 (replicate 2 (0,0,0,0,0,[]))))] [(1,⟨[.v S78],vb t1,none⟩)] [] 5422 rfl (by kernel_rfl) (cc (W_core_fits h1) c0) ?_
 refine run_if rfl rfl (fun h2=>?_) (fun h2=>?_)
 ·replace F0:=ift h2 F0
  refine sq rfl (rg [(2,.ptr 5020 [] 0)] [(5020,.var 110 S110 (wrap .u32 x0.1,x0.2.2.1,x0.2.2.2.2.1,x0.2.2.2.2.2.1,x0.2.2.2.2.2.2.1,x0.2.2.2.2.2.2.2.2.1,x0.2.2.2.2.2.2.2.2.2.1,x0.2.2.2.2.2.2.2.2.2.2.2.1,x0.2.2.2.2.2.2.2.2.2.2.2.2.2,0,replicate 3 (replicate 2 (0,0,0,0,0,[])),replicate 3 (replicate 2 (0,0,0,0,0,[])),0,0,replicate 3 (replicate 2 (0,0,0,0,0,[]))))] [] [] 5422 rfl (by kernel_rfl) c0 ?_)
  obtain rfl:=inj F0
  exact ret_pure (q:=[.v S110 (wrap .u32 x0.1,x0.2.2.1,x0.2.2.2.2.1,x0.2.2.2.2.2.1,x0.2.2.2.2.2.2.1,x0.2.2.2.2.2.2.2.2.1,x0.2.2.2.2.2.2.2.2.2.1,x0.2.2.2.2.2.2.2.2.2.2.2.1,x0.2.2.2.2.2.2.2.2.2.2.2.2.2,0,replicate 3 (replicate 2 (0,0,0,0,0,[])),replicate 3 (replicate 2 (0,0,0,0,0,[])),0,0,replicate 3 (replicate 2 (0,0,0,0,0,[])))]) [S110] rfl rfl (by kernel_rfl)
 ·replace F0:=ifn h2 F0
  refine sk rfl (sq rfl ?_)
  obtain ⟨h3,F0⟩:=ifg F0
  refine rg [(1,.ptr 5000 [] 0),(2,.ptr 5020 [] 0),(3,.ptr 5421 [] 0)] [(5000,.var 78 S78 x0),(5020,.var 110 S110 (0,0,(0,0,0),replicate 8 0,replicate 8 0,(0,0,0),replicate 8 0,false,0,0,replicate 3 (replicate 2 (0,0,0,0,0,[])),replicate 3 (replicate 2 (0,0,0,0,0,[])),0,0,replicate 3 (replicate 2 (0,0,0,0,0,[])))),(5421,.var 110 S110 (wrap .u32 x0.1,x0.2.2.1,x0.2.2.2.2.1,x0.2.2.2.2.2.1,x0.2.2.2.2.2.2.1,x0.2.2.2.2.2.2.2.2.1,x0.2.2.2.2.2.2.2.2.2.1,x0.2.2.2.2.2.2.2.2.2.2.2.1,x0.2.2.2.2.2.2.2.2.2.2.2.2.2,getD x0.2.2.2.2.2.2.1 (toNat x0.1) 0,replicate 3 (replicate 2 (0,0,0,0,0,[])),replicate 3 (replicate 2 (0,0,0,0,0,[])),0,0,replicate 3 (replicate 2 (0,0,0,0,0,[]))))] [] [] 5422 rfl (by kernel_rfl) (cc h3 (cc (show offP S78 [.u,.r,.r,.r,.r,.r,.r,.l,.i (toNat x0.1)]=(31+toNat x0.1*1) from offJ (p:=[.u,.r,.r,.r,.r,.r,.r,.l]) (q:=[]) rfl (by kernel_rfl) (by kernel_rfl) (by kernel_rfl)) (cc (oo h3 trivial) c0))) (sq rfl ?_)
  obtain ⟨t2,h4,F0⟩:=obd F0
  refine rg [(1,.ptr 5000 [] 0),(2,.ptr 5020 [] 0),(3,.ptr 5421 [] 0)] [(5000,.var 78 S78 x0),(5020,.var 110 S110 (0,0,(0,0,0),replicate 8 0,replicate 8 0,(0,0,0),replicate 8 0,false,0,0,replicate 3 (replicate 2 (0,0,0,0,0,[])),replicate 3 (replicate 2 (0,0,0,0,0,[])),0,0,replicate 3 (replicate 2 (0,0,0,0,0,[])))),(5421,.var 110 S110 (wrap .u32 x0.1,x0.2.2.1,x0.2.2.2.2.1,x0.2.2.2.2.2.1,x0.2.2.2.2.2.2.1,x0.2.2.2.2.2.2.2.2.1,x0.2.2.2.2.2.2.2.2.2.1,x0.2.2.2.2.2.2.2.2.2.2.2.1,x0.2.2.2.2.2.2.2.2.2.2.2.2.2,getD x0.2.2.2.2.2.2.1 (toNat x0.1) 0,t2.1,replicate 3 (replicate 2 (0,0,0,0,0,[])),0,0,replicate 3 (replicate 2 (0,0,0,0,0,[]))))] [(6,⟨[.v (.sl S44),.v (.int .i64),.v (.int .u32)],.tup [.v (.arr 3 (.arr 2 S39)) t2.1,vb t2.2],none⟩)] [] 5422 rfl (by kernel_rfl) (cc (W_kept_Get h4) c0) (sq rfl (sq rfl (rg [(1,.ptr 5000 [] 0),(2,.ptr 5020 [] 0),(3,.ptr 5421 [] 0),(49,vb (decide ((getD x0.2.2.2.2.2.2.1 (toNat x0.1) 0)>0)))] [(5000,.var 78 S78 x0),(5020,.var 110 S110 (0,0,(0,0,0),replicate 8 0,replicate 8 0,(0,0,0),replicate 8 0,false,0,0,replicate 3 (replicate 2 (0,0,0,0,0,[])),replicate 3 (replicate 2 (0,0,0,0,0,[])),0,0,replicate 3 (replicate 2 (0,0,0,0,0,[])))),(5421,.var 110 S110 (wrap .u32 x0.1,x0.2.2.1,x0.2.2.2.2.1,x0.2.2.2.2.2.1,x0.2.2.2.2.2.2.1,x0.2.2.2.2.2.2.2.2.1,x0.2.2.2.2.2.2.2.2.2.1,x0.2.2.2.2.2.2.2.2.2.2.2.1,x0.2.2.2.2.2.2.2.2.2.2.2.2.2,getD x0.2.2.2.2.2.2.1 (toNat x0.1) 0,t2.1,replicate 3 (replicate 2 (0,0,0,0,0,[])),0,0,replicate 3 (replicate 2 (0,0,0,0,0,[]))))] [] [] 5422 rfl (by kernel_rfl) c0 ?_)))
  obtain ⟨r1,F1,F0⟩:=obd F0
  refine run_cut (fun r1'=>r1=r1') (fun r1=>[(1,.ptr 5000 [] 0),(2,.ptr 5020 [] 0),(3,.ptr 5421 [] 0)]) (fun r1=>[(5000,.var 78 S78 x0),(5020,.var 110 S110 (0,0,(0,0,0),replicate 8 0,replicate 8 0,(0,0,0),replicate 8 0,false,0,0,replicate 3 (replicate 2 (0,0,0,0,0,[])),replicate 3 (replicate 2 (0,0,0,0,0,[])),0,0,replicate 3 (replicate 2 (0,0,0,0,0,[])))),(5421,.var 110 S110 r1)]) (fun r1' h5=>?_) (fun J1_0=>?_)
  ·subst h5
   refine sq rfl (sq rfl ?_)
   obtain ⟨t3,h6,F0⟩:=obd F0
   refine rg [(1,.ptr 5000 [] 0),(2,.ptr 5020 [] 0),(3,.ptr 5421 [] 0),(63,vb t3)] [(5000,.var 78 S78 x0),(5020,.var 110 S110 (0,0,(0,0,0),replicate 8 0,replicate 8 0,(0,0,0),replicate 8 0,false,0,0,replicate 3 (replicate 2 (0,0,0,0,0,[])),replicate 3 (replicate 2 (0,0,0,0,0,[])),0,0,replicate 3 (replicate 2 (0,0,0,0,0,[])))),(5421,.var 110 S110 r1)] [(1,⟨[.v S78],vb t3,none⟩)] [] 5422 rfl (by kernel_rfl) (cc (W_core_Gathers h6) c0) ?_
   obtain ⟨r2,F1,F0⟩:=obd F0
   refine run_cut (fun r2'=>r2=r2') (fun r2=>[(1,.ptr 5000 [] 0),(2,.ptr 5020 [] 0),(3,.ptr 5421 [] 0)]) (fun r2=>[(5000,.var 78 S78 x0),(5020,.var 110 S110 (0,0,(0,0,0),replicate 8 0,replicate 8 0,(0,0,0),replicate 8 0,false,0,0,replicate 3 (replicate 2 (0,0,0,0,0,[])),replicate 3 (replicate 2 (0,0,0,0,0,[])),0,0,replicate 3 (replicate 2 (0,0,0,0,0,[])))),(5421,.var 110 S110 r2)]) (fun r2' h7=>?_) (fun J2_0=>?_)
   ·subst h7
    refine sq rfl (sq rfl ?_)
    obtain ⟨t4,h8,F0⟩:=obd F0
    refine rg [(2,.ptr 5020 [] 0),(3,.ptr 5421 [] 0),(4,.ptr 5602 [] 0),(5,vb t4.2)] [(5020,.var 110 S110 (0,0,(0,0,0),replicate 8 0,replicate 8 0,(0,0,0),replicate 8 0,false,0,0,replicate 3 (replicate 2 (0,0,0,0,0,[])),replicate 3 (replicate 2 (0,0,0,0,0,[])),0,0,replicate 3 (replicate 2 (0,0,0,0,0,[])))),(5421,.var 110 S110 r2),(5602,.var 44 S44 t4.1)] [(5,⟨[.v (.sl S44),.v (.int .u32)],.tup [.v S44 t4.1,vb t4.2],none⟩)] [] 5422 rfl (by kernel_rfl) (cc (W_kept_Pick h8) c0) (sq rfl (rg [(2,.ptr 5020 [] 0),(3,.ptr 5421 [] 0),(4,.ptr 5602 [] 0),(76,vb t4.2)] [(5020,.var 110 S110 (0,0,(0,0,0),replicate 8 0,replicate 8 0,(0,0,0),replicate 8 0,false,0,0,replicate 3 (replicate 2 (0,0,0,0,0,[])),replicate 3 (replicate 2 (0,0,0,0,0,[])),0,0,replicate 3 (replicate 2 (0,0,0,0,0,[])))),(5421,.var 110 S110 r2),(5602,.var 44 S44 t4.1)] [] [] 5603 rfl (by kernel_rfl) c0 ?_))
    refine run_if rfl rfl (fun h9=>?_) (fun h9=>?_)
    ·replace F0:=ift h9 F0
     refine rG [(2,.ptr 5020 [] 0),(3,.ptr 5421 [] 0)] [(5020,.var 110 S110 (0,0,(0,0,0),replicate 8 0,replicate 8 0,(0,0,0),replicate 8 0,false,0,0,replicate 3 (replicate 2 (0,0,0,0,0,[])),replicate 3 (replicate 2 (0,0,0,0,0,[])),0,0,replicate 3 (replicate 2 (0,0,0,0,0,[])))),(5421,.var 110 S110 (r2.1,r2.2.1,r2.2.2.1,r2.2.2.2.1,r2.2.2.2.2.1,r2.2.2.2.2.2.1,r2.2.2.2.2.2.2.1,r2.2.2.2.2.2.2.2.1,r2.2.2.2.2.2.2.2.2.1,r2.2.2.2.2.2.2.2.2.2.1,r2.2.2.2.2.2.2.2.2.2.2.1,r2.2.2.2.2.2.2.2.2.2.2.2.1,wrap .u32 t4.1.1,t4.1.2))] [] [] 5603 rfl rfl (by kernel_rfl) (cc (show (.v (.int .u32) t4.1.2.1:AVal)=(.v (.int .u32) t4.1.2.1) from rfl) (cc (show (.v (.arr 3 (.arr 2 S39)) t4.1.2.2:AVal)=(.v (.arr 3 (.arr 2 S39)) t4.1.2.2) from rfl) (cc (show (.v (.arr 3 (.arr 2 S39)) t4.1.2.2:AVal)=(.v (.arr 3 (.arr 2 S39)) t4.1.2.2) from rfl) c0))) (sq rfl (rg [(2,.ptr 5020 [] 0)] [(5020,.var 110 S110 (r2.1,r2.2.1,r2.2.2.1,r2.2.2.2.1,r2.2.2.2.2.1,r2.2.2.2.2.2.1,r2.2.2.2.2.2.2.1,r2.2.2.2.2.2.2.2.1,r2.2.2.2.2.2.2.2.2.1,r2.2.2.2.2.2.2.2.2.2.1,r2.2.2.2.2.2.2.2.2.2.2.1,r2.2.2.2.2.2.2.2.2.2.2.2.1,wrap .u32 t4.1.1,t4.1.2))] [] [] 5422 rfl (by kernel_rfl) c0 ?_))
     obtain rfl:=inj F0
     exact ret_pure (q:=[.v S110 (r2.1,r2.2.1,r2.2.2.1,r2.2.2.2.1,r2.2.2.2.2.1,r2.2.2.2.2.2.1,r2.2.2.2.2.2.2.1,r2.2.2.2.2.2.2.2.1,r2.2.2.2.2.2.2.2.2.1,r2.2.2.2.2.2.2.2.2.2.1,r2.2.2.2.2.2.2.2.2.2.2.1,r2.2.2.2.2.2.2.2.2.2.2.2.1,wrap .u32 t4.1.1,t4.1.2)]) [S110] rfl rfl (by kernel_rfl)
    ·replace F0:=ifn h9 F0
     refine sk rfl (sq rfl (rg [(2,.ptr 5020 [] 0)] [(5020,.var 110 S110 r2)] [] [] 5603 rfl (by kernel_rfl) c0 ?_))
     obtain rfl:=inj F0
     exact ret_pure (q:=[.v S110 r2]) [S110] rfl rfl (by kernel_rfl)
   refine run_if rfl rfl (fun h10=>?_) (fun h10=>?_)
   ·replace F1:=ift h10 F1
    refine rg [(1,.ptr 5000 [] 0),(2,.ptr 5020 [] 0),(3,.ptr 5421 [] 0)] [(5000,.var 78 S78 x0),(5020,.var 110 S110 (0,0,(0,0,0),replicate 8 0,replicate 8 0,(0,0,0),replicate 8 0,false,0,0,replicate 3 (replicate 2 (0,0,0,0,0,[])),replicate 3 (replicate 2 (0,0,0,0,0,[])),0,0,replicate 3 (replicate 2 (0,0,0,0,0,[])))),(5421,.var 110 S110 (r1.1,r1.2.1,r1.2.2.1,r1.2.2.2.1,x0.2.2.2.2.2.2.2.2.2.2.1,r1.2.2.2.2.2))] [] [] 5422 rfl (by kernel_rfl) c0 ?_
    exact J2_0 _ (inj F1).symm
   ·replace F1:=ifn h10 F1
    refine sk rfl (tm (ρ':=[(1,.ptr 5000 [] 0),(2,.ptr 5020 [] 0),(3,.ptr 5421 [] 0)]) (H':=[(5000,.var 78 S78 x0),(5020,.var 110 S110 (0,0,(0,0,0),replicate 8 0,replicate 8 0,(0,0,0),replicate 8 0,false,0,0,replicate 3 (replicate 2 (0,0,0,0,0,[])),replicate 3 (replicate 2 (0,0,0,0,0,[])),0,0,replicate 3 (replicate 2 (0,0,0,0,0,[])))),(5421,.var 110 S110 r1)]) (by kernel_rfl) (by kernel_rfl) rfl ?_)
    exact J2_0 _ (inj F1).symm
  refine run_if rfl rfl (fun h11=>?_) (fun h11=>?_)
  ·replace F1:=ift h11 F1
   obtain ⟨t5,h12,F1⟩:=obd F1
   refine rg [(1,.ptr 5000 [] 0),(2,.ptr 5020 [] 0),(3,.ptr 5421 [] 0)] [(5000,.var 78 S78 x0),(5020,.var 110 S110 (0,0,(0,0,0),replicate 8 0,replicate 8 0,(0,0,0),replicate 8 0,false,0,0,replicate 3 (replicate 2 (0,0,0,0,0,[])),replicate 3 (replicate 2 (0,0,0,0,0,[])),0,0,replicate 3 (replicate 2 (0,0,0,0,0,[])))),(5421,.var 110 S110 (wrap .u32 x0.1,x0.2.2.1,x0.2.2.2.2.1,x0.2.2.2.2.2.1,x0.2.2.2.2.2.2.1,x0.2.2.2.2.2.2.2.2.1,x0.2.2.2.2.2.2.2.2.2.1,x0.2.2.2.2.2.2.2.2.2.2.2.1,x0.2.2.2.2.2.2.2.2.2.2.2.2.2,getD x0.2.2.2.2.2.2.1 (toNat x0.1) 0,t2.1,t5.1,0,0,replicate 3 (replicate 2 (0,0,0,0,0,[]))))] [(7,⟨[.v (.sl S44),.v (.int .i64),.v (.int .u32)],.tup [.v (.arr 3 (.arr 2 S39)) t5.1,vb t5.2],none⟩)] [] 5422 rfl (by kernel_rfl) (cc (W_kept_Get h12) c0) ?_
   exact J1_0 _ (inj F1).symm
  ·replace F1:=ifn h11 F1
   refine sk rfl (tm (ρ':=[(1,.ptr 5000 [] 0),(2,.ptr 5020 [] 0),(3,.ptr 5421 [] 0)]) (H':=[(5000,.var 78 S78 x0),(5020,.var 110 S110 (0,0,(0,0,0),replicate 8 0,replicate 8 0,(0,0,0),replicate 8 0,false,0,0,replicate 3 (replicate 2 (0,0,0,0,0,[])),replicate 3 (replicate 2 (0,0,0,0,0,[])),0,0,replicate 3 (replicate 2 (0,0,0,0,0,[])))),(5421,.var 110 S110 (wrap .u32 x0.1,x0.2.2.1,x0.2.2.2.2.1,x0.2.2.2.2.2.1,x0.2.2.2.2.2.2.1,x0.2.2.2.2.2.2.2.2.1,x0.2.2.2.2.2.2.2.2.2.1,x0.2.2.2.2.2.2.2.2.2.2.2.1,x0.2.2.2.2.2.2.2.2.2.2.2.2.2,getD x0.2.2.2.2.2.2.1 (toNat x0.1) 0,t2.1,replicate 3 (replicate 2 (0,0,0,0,0,[])),0,0,replicate 3 (replicate 2 (0,0,0,0,0,[]))))]) (by kernel_rfl) (by kernel_rfl) rfl ?_)
   exact J1_0 _ (inj F1).symm
abbrev S93:Sh:=(.st (.prod (.int .i64) (.prod (.int .i64) (.prod .str .bool))))
noncomputable def F_slices_Clone_api_Letter_api_Letter (x0:(List S93.ty)):Option (List S93.ty) :=
 if apOk (0+(length x0)) 40 then (some ([]++x0)) else none
theorem W_slices_Clone_api_Letter_api_Letter {x0:(List S93.ty)} {y:(List S93.ty)} (F0:F_slices_Clone_api_Letter_api_Letter x0=some y):Mut Tryz.prog 39 0 [.v (.sl S93) x0] [] (.row 0) [(0,.row 93 S93 y)]:=by
 unfold F_slices_Clone_api_Letter_api_Letter at F0
 refine mut_of_run @Tryz.call39 @Tryz.func39 rfl rfl fun b=>?_
 refine sq rfl (rg [(0,.v (.sl S93) x0)] [] [] [] 5000 rfl (by kernel_rfl) c0 (sq rfl (sq rfl ?_)))
 refine run_nilreg (e:=93) (ρ1:=[(3,.v (.sl S93) x0),(0,.v (.sl S93) x0)]) (H1:=[]) [] [] 0 rfl rfl rfl (by kernel_rfl) c0 rfl (by kernel_rfl) rfl rfl (fun h1=>?_) ?_
 ·subst h1
  obtain ⟨_,F0⟩:=ifg F0
  refine run_cond (t:=true) rfl (by kernel_rfl) (sq rfl (rg [(2,.v (.nl .any) ())] [] [] [] 5000 rfl (by kernel_rfl) c0 (run_nilrow (ρ':=[(2,.row 0)]) 2 0 93 S93 rfl (by kernel_rfl) (by kernel_rfl) ?_)))
  obtain rfl:=inj F0
  exact ret_mut (q:=[.row 0]) [none] [0] rfl rfl (by kernel_rfl) rfl (by kernel_rfl)
 ·refine run_cond (t:=false) rfl (by kernel_rfl) (sk rfl (sq rfl ?_))
  obtain ⟨h2,F0⟩:=ifg F0
  refine rg [(2,.row 5040)] [(5040,.row 93 S93 ([]++x0))] [] [] 5000 rfl (by kernel_rfl) (cc h2.1 (cc h2.2 c0)) (run_ren (ρ':=[(2,.row 0)]) (H':=[(0,.row 93 S93 ([]++x0))]) 5040 0 rfl (by kernel_rfl) rfl (by kernel_rfl) rfl ?_)
  obtain rfl:=inj F0
  exact ret_mut (q:=[.row 0]) [none] [0] rfl rfl (by kernel_rfl) rfl (by kernel_rfl)
noncomputable def F_slices_Clone_bool_bool (x0:(List Bool)):Option (List Bool) :=
 if apOk (0+(length x0)) 1 then (some ([]++x0)) else none
theorem W_slices_Clone_bool_bool {x0:(List Bool)} {y:(List Bool)} (F0:F_slices_Clone_bool_bool x0=some y):Mut Tryz.prog 38 0 [.v (.sl .bool) x0] [] (.row 0) [(0,.row 4 .bool y)]:=by
 unfold F_slices_Clone_bool_bool at F0
 refine mut_of_run @Tryz.call38 @Tryz.func38 rfl rfl fun b=>?_
 refine sq rfl (rg [(0,.v (.sl .bool) x0)] [] [] [] 5000 rfl (by kernel_rfl) c0 (sq rfl (sq rfl ?_)))
 refine run_nilreg (e:=4) (ρ1:=[(3,.v (.sl .bool) x0),(0,.v (.sl .bool) x0)]) (H1:=[]) [] [] 0 rfl rfl rfl (by kernel_rfl) c0 rfl (by kernel_rfl) rfl rfl (fun h1=>?_) ?_
 ·subst h1
  obtain ⟨_,F0⟩:=ifg F0
  refine run_cond (t:=true) rfl (by kernel_rfl) (sq rfl (rg [(2,.v (.nl .any) ())] [] [] [] 5000 rfl (by kernel_rfl) c0 (run_nilrow (ρ':=[(2,.row 0)]) 2 0 4 .bool rfl (by kernel_rfl) (by kernel_rfl) ?_)))
  obtain rfl:=inj F0
  exact ret_mut (q:=[.row 0]) [none] [0] rfl rfl (by kernel_rfl) rfl (by kernel_rfl)
 ·refine run_cond (t:=false) rfl (by kernel_rfl) (sk rfl (sq rfl ?_))
  obtain ⟨h2,F0⟩:=ifg F0
  refine rg [(2,.row 5040)] [(5040,.row 4 .bool ([]++x0))] [] [] 5000 rfl (by kernel_rfl) (cc h2.1 (cc h2.2 c0)) (run_ren (ρ':=[(2,.row 0)]) (H':=[(0,.row 4 .bool ([]++x0))]) 5040 0 rfl (by kernel_rfl) rfl (by kernel_rfl) rfl ?_)
  obtain rfl:=inj F0
  exact ret_mut (q:=[.row 0]) [none] [0] rfl rfl (by kernel_rfl) rfl (by kernel_rfl)
noncomputable def F_slices_Concat_api_Letter_api_Letter_b2 (x0:(List (List S93.ty))) (s2:(Int×(List S93.ty))):Option ((Int×(List S93.ty))⊕(List S93.ty)) :=
 if (decide (s2.1<((length x0:Nat):Int)))=true then if 0≤s2.1∧s2.1<((length x0:Nat):Int) then (if apOk (length s2.2+(length (getD x0 (toNat s2.1) []))) 40 then (some (Sum.inl (wrap .i64 (s2.1+1),s2.2++(getD x0 (toNat s2.1) [])))) else none) else none else some (Sum.inr s2.2)
noncomputable def F_slices_Concat_api_Letter_api_Letter_b1 (x0:(List (List S93.ty))) (s1:(Int×Int)):Option ((Int×Int)⊕Int) :=
 if (decide (s1.2<((length x0:Nat):Int)))=true then if 0≤s1.2∧s1.2<((length x0:Nat):Int) then (if (decide ((wrap .i64 (s1.1+((length (getD x0 (toNat s1.2) []):Nat):Int)))<0))=true then none else some (Sum.inl (wrap .i64 (s1.1+((length (getD x0 (toNat s1.2) []):Nat):Int)),wrap .i64 (s1.2+1)))) else none else some (Sum.inr s1.1)
noncomputable def F_slices_Concat_api_Letter_api_Letter (x0:(List (List S93.ty))):Option (List S93.ty) :=
 (loopO (F_slices_Concat_api_Letter_api_Letter_b1 x0) (0,0)).bind (fun r1=>(F_slices_Grow_api_Letter_api_Letter () r1).bind fun t1=>((loopO (F_slices_Concat_api_Letter_api_Letter_b2 x0) (0,t1)).bind (fun r2=>some r2)))
theorem W_slices_Concat_api_Letter_api_Letter {x0:(List (List S93.ty))} {y:(List S93.ty)} (F0:F_slices_Concat_api_Letter_api_Letter x0=some y):Pure Tryz.prog 128 [.v (.sl (.sl S93)) x0] (.v (.sl S93) y):=by
 unfold F_slices_Concat_api_Letter_api_Letter at F0
 refine pure_of_run @Tryz.call128 @Tryz.func128 rfl rfl fun w M ho=>?_
 refine sq rfl (rg [(0,.v (.sl (.sl S93)) x0)] [] [] [] 5000 rfl (by kernel_rfl) c0 (sq rfl (rg [(0,.v (.sl (.sl S93)) x0),(3,vi 0)] [] [] [] 5000 rfl (by kernel_rfl) c0 (sq rfl (sq rfl (rg [(0,.v (.sl (.sl S93)) x0),(3,vi 0),(9,.v (.sl (.sl S93)) x0),(10,vi ((length x0:Nat):Int)),(11,vi 0)] [] [] [] 5000 rfl (by kernel_rfl) c0 (bk rfl ?_)))))))
 obtain ⟨r1,hl1,F0⟩:=obd F0
 refine run_cutx 0 rfl (fun r1'=>r1=r1') (fun r1=>[(0,.v (.sl (.sl S93)) x0),(3,vi r1)]) (fun r1=>[]) (fun r1' h1=>?_) (fun J1_0=>?_)
 ·subst h1
  refine sq rfl ?_
  obtain ⟨t1,h2,F0⟩:=obd F0
  refine rg [(0,.v (.sl (.sl S93)) x0),(6,.row 5020)] [(5020,.row 93 S93 t1)] [(1,⟨[.v (.nl S93),.v (.int .i64)],.row 0,some ([],[(0,.row 93 S93 t1)])⟩)] [] 5000 rfl (by kernel_rfl) (cc (W_slices_Grow_api_Letter_api_Letter h2) c0) (sq rfl (sq rfl (rg [(6,.row 5020),(25,.v (.sl (.sl S93)) x0),(26,vi ((length x0:Nat):Int)),(27,vi 0)] [(5020,.row 93 S93 t1)] [] [] 5021 rfl (by kernel_rfl) c0 (bk rfl (run_ren (ρ':=[(6,.row 1206),(25,.v (.sl (.sl S93)) x0),(26,vi ((length x0:Nat):Int)),(27,vi 0)]) (H':=[(1206,.row 93 S93 t1)]) 5020 1206 rfl (by kernel_rfl) rfl (by kernel_rfl) rfl ?_)))))
  obtain ⟨r2,hl2,F0⟩:=obd F0
  refine run_cutx 2 rfl (fun r2'=>r2=r2') (fun r2=>[(6,.row 1206)]) (fun r2=>[(1206,.row 93 S93 r2)]) (fun r2' h3=>?_) (fun J2_0=>?_)
  ·subst h3
   refine sq rfl (rg [(2,.row 1206)] [(1206,.row 93 S93 r2)] [] [] 5000 rfl (by kernel_rfl) c0 ?_)
   obtain rfl:=inj F0
   refine run_frz (ρ':=[(2,.v (.sl S93) r2)]) (H':=[]) 1206 rfl rfl rfl (by kernel_rfl) (by kernel_rfl) ?_
   exact ret_pure (q:=[.v (.sl S93) r2]) [(.sl S93)] rfl rfl (by kernel_rfl)
  refine run_loop rfl (run_loopO hl2 (fun s2=>[(6,.row 1206),(25,.v (.sl (.sl S93)) x0),(26,vi ((length x0:Nat):Int)),(27,vi s2.1)]) (fun s2=>[(1206,.row 93 S93 s2.2)]) rfl rfl (fun s2 o2 F1 ih2 hr2=>?_))
  unfold F_slices_Concat_api_Letter_api_Letter_b2 at F1
  refine run_again (sq rfl (rg [(6,.row 1206),(25,.v (.sl (.sl S93)) x0),(26,vi ((length x0:Nat):Int)),(27,vi s2.1),(28,vb (decide (s2.1<((length x0:Nat):Int))))] [(1206,.row 93 S93 s2.2)] [] [] 5000 rfl (by kernel_rfl) c0 (sq rfl ?_)))
  refine run_if rfl rfl (fun h4=>?_) (fun h4=>?_)
  ·replace F1:=ift h4 F1
   refine sk rfl (sq rfl (bk rfl (sq rfl ?_)))
   obtain ⟨h5,F1⟩:=ifg F1
   refine rg [(6,.row 1206),(8,.v (.sl S93) (getD x0 (toNat s2.1) [])),(25,.v (.sl (.sl S93)) x0),(26,vi ((length x0:Nat):Int)),(27,vi s2.1)] [(1206,.row 93 S93 s2.2)] [] [] 5000 rfl (by kernel_rfl) (cc h5 c0) ?_
   obtain ⟨h6,F1⟩:=ifg F1
   refine rg [(6,.row 5040),(25,.v (.sl (.sl S93)) x0),(26,vi ((length x0:Nat):Int)),(27,vi s2.1)] [(5040,.row 93 S93 (s2.2++(getD x0 (toNat s2.1) [])))] [] [] 5000 rfl (by kernel_rfl) (cc h6.1 (cc h6.2 c0)) (eb (rg [(6,.row 5040),(25,.v (.sl (.sl S93)) x0),(26,vi ((length x0:Nat):Int)),(27,vi (wrap .i64 (s2.1+1)))] [(5040,.row 93 S93 (s2.2++(getD x0 (toNat s2.1) [])))] [] [] 5041 rfl (by kernel_rfl) c0 (run_ren (ρ':=[(6,.row 1206),(25,.v (.sl (.sl S93)) x0),(26,vi ((length x0:Nat):Int)),(27,vi (wrap .i64 (s2.1+1)))]) (H':=[(1206,.row 93 S93 (s2.2++(getD x0 (toNat s2.1) [])))]) 5040 1206 rfl (by kernel_rfl) rfl (by kernel_rfl) rfl ?_)))
   exact ih2 _ (inj F1).symm
  ·replace F1:=ifn h4 F1
   refine run_exit rfl rfl (tm (ρ':=[(6,.row 1206)]) (H':=[(1206,.row 93 S93 s2.2)]) (by kernel_rfl) (by kernel_rfl) rfl ?_)
   exact J2_0 _ (inrI hr2 F1).symm
 refine run_loop rfl (run_loopO hl1 (fun s1=>[(0,.v (.sl (.sl S93)) x0),(3,vi s1.1),(9,.v (.sl (.sl S93)) x0),(10,vi ((length x0:Nat):Int)),(11,vi s1.2)]) (fun s1=>[]) rfl rfl (fun s1 o1 F1 ih1 hr1=>?_))
 unfold F_slices_Concat_api_Letter_api_Letter_b1 at F1
 refine run_again (sq rfl (rg [(0,.v (.sl (.sl S93)) x0),(3,vi s1.1),(9,.v (.sl (.sl S93)) x0),(10,vi ((length x0:Nat):Int)),(11,vi s1.2),(12,vb (decide (s1.2<((length x0:Nat):Int))))] [] [] [] 5000 rfl (by kernel_rfl) c0 (sq rfl ?_)))
 refine run_if rfl rfl (fun h7=>?_) (fun h7=>?_)
 ·replace F1:=ift h7 F1
  refine sk rfl (sq rfl (bk rfl (sq rfl ?_)))
  obtain ⟨h8,F1⟩:=ifg F1
  refine rg [(0,.v (.sl (.sl S93)) x0),(3,vi s1.1),(5,.v (.sl S93) (getD x0 (toNat s1.2) [])),(9,.v (.sl (.sl S93)) x0),(10,vi ((length x0:Nat):Int)),(11,vi s1.2)] [] [] [] 5000 rfl (by kernel_rfl) (cc h8 c0) (sq rfl (rg [(0,.v (.sl (.sl S93)) x0),(3,vi (wrap .i64 (s1.1+((length (getD x0 (toNat s1.2) []):Nat):Int)))),(9,.v (.sl (.sl S93)) x0),(10,vi ((length x0:Nat):Int)),(11,vi s1.2)] [] [] [] 5000 rfl (by kernel_rfl) c0 (sq rfl (rg [(0,.v (.sl (.sl S93)) x0),(3,vi (wrap .i64 (s1.1+((length (getD x0 (toNat s1.2) []):Nat):Int)))),(9,.v (.sl (.sl S93)) x0),(10,vi ((length x0:Nat):Int)),(11,vi s1.2),(20,vb (decide ((wrap .i64 (s1.1+((length (getD x0 (toNat s1.2) []):Nat):Int)))<0)))] [] [] [] 5000 rfl (by kernel_rfl) c0 ?_))))
  refine run_if rfl rfl (fun h9=>?_) (fun h9=>?_)
  ·replace F1:=ift h9 F1
   cases F1
  ·replace F1:=ifn h9 F1
   refine sk rfl (eb (rg [(0,.v (.sl (.sl S93)) x0),(3,vi (wrap .i64 (s1.1+((length (getD x0 (toNat s1.2) []):Nat):Int)))),(9,.v (.sl (.sl S93)) x0),(10,vi ((length x0:Nat):Int)),(11,vi (wrap .i64 (s1.2+1)))] [] [] [] 5000 rfl (by kernel_rfl) c0 ?_))
   exact ih1 _ (inj F1).symm
 ·replace F1:=ifn h7 F1
  refine run_exit rfl rfl (tm (ρ':=[(0,.v (.sl (.sl S93)) x0),(3,vi s1.1)]) (H':=[]) (by kernel_rfl) (by kernel_rfl) rfl ?_)
  exact J1_0 _ (inrI hr1 F1).symm
noncomputable def F_slices_Delete_api_Letter_api_Letter (x0:(List S93.ty)) (x1:Int) (x2:Int):Option (List S93.ty) :=
 if ((0:Int)≤x1∧(0:Int)≤x2∧(0:Int)≤((length x0:Nat):Int)∧toNat x1≤toNat x2∧toNat x2≤toNat ((length x0:Nat):Int)∧toNat ((length x0:Nat):Int)≤length x0) then (if (x1==x2)=true then some x0 else if ((0:Int)≤x1∧0≤toNat x1∧toNat x1≤length x0) then (if ((0:Int)≤x2∧toNat x2≤length x0∧length x0≤length x0) then (if ((toNat x2)+(length x0-toNat x2)≤length x0∧(toNat x1-0)+length (take (length x0-toNat x2) (drop (toNat x2) x0))≤length x0) then (if ((0:Int)≤((((toNat x1-0)+length (take (length x0-toNat x2) (drop (toNat x2) x0))):Nat):Int)∧(0:Int)≤((length x0:Nat):Int)∧toNat ((((toNat x1-0)+length (take (length x0-toNat x2) (drop (toNat x2) x0))):Nat):Int)≤toNat ((length x0:Nat):Int)∧0+(toNat ((length x0:Nat):Int))≤length (take (toNat x1-0) x0++((take (length x0-toNat x2) (drop (toNat x2) x0))++drop ((toNat x1-0)+length (take (length x0-toNat x2) (drop (toNat x2) x0))) x0))) then (if (0+(toNat ((((toNat x1-0)+length (take (length x0-toNat x2) (drop (toNat x2) x0))):Nat):Int)))+(toNat ((length x0:Nat):Int)-toNat ((((toNat x1-0)+length (take (length x0-toNat x2) (drop (toNat x2) x0))):Nat):Int))≤length (take (toNat x1-0) x0++((take (length x0-toNat x2) (drop (toNat x2) x0))++drop ((toNat x1-0)+length (take (length x0-toNat x2) (drop (toNat x2) x0))) x0)) then (if ((toNat x1-0)+length (take (length x0-toNat x2) (drop (toNat x2) x0)))≤length (take (0+(toNat ((((toNat x1-0)+length (take (length x0-toNat x2) (drop (toNat x2) x0))):Nat):Int))) (take (toNat x1-0) x0++((take (length x0-toNat x2) (drop (toNat x2) x0))++drop ((toNat x1-0)+length (take (length x0-toNat x2) (drop (toNat x2) x0))) x0))++(replicate (toNat ((length x0:Nat):Int)-toNat ((((toNat x1-0)+length (take (length x0-toNat x2) (drop (toNat x2) x0))):Nat):Int)) S93.dflt++drop ((0+(toNat ((((toNat x1-0)+length (take (length x0-toNat x2) (drop (toNat x2) x0))):Nat):Int)))+(toNat ((length x0:Nat):Int)-toNat ((((toNat x1-0)+length (take (length x0-toNat x2) (drop (toNat x2) x0))):Nat):Int))) (take (toNat x1-0) x0++((take (length x0-toNat x2) (drop (toNat x2) x0))++drop ((toNat x1-0)+length (take (length x0-toNat x2) (drop (toNat x2) x0))) x0)))) then some (take ((toNat x1-0)+length (take (length x0-toNat x2) (drop (toNat x2) x0))) (take (0+(toNat ((((toNat x1-0)+length (take (length x0-toNat x2) (drop (toNat x2) x0))):Nat):Int))) (take (toNat x1-0) x0++((take (length x0-toNat x2) (drop (toNat x2) x0))++drop ((toNat x1-0)+length (take (length x0-toNat x2) (drop (toNat x2) x0))) x0))++(replicate (toNat ((length x0:Nat):Int)-toNat ((((toNat x1-0)+length (take (length x0-toNat x2) (drop (toNat x2) x0))):Nat):Int)) S93.dflt++drop ((0+(toNat ((((toNat x1-0)+length (take (length x0-toNat x2) (drop (toNat x2) x0))):Nat):Int)))+(toNat ((length x0:Nat):Int)-toNat ((((toNat x1-0)+length (take (length x0-toNat x2) (drop (toNat x2) x0))):Nat):Int))) (take (toNat x1-0) x0++((take (length x0-toNat x2) (drop (toNat x2) x0))++drop ((toNat x1-0)+length (take (length x0-toNat x2) (drop (toNat x2) x0))) x0))))) else none) else none) else none) else none) else none) else none) else none
theorem W_slices_Delete_api_Letter_api_Letter {x0:(List S93.ty)} {x1:Int} {x2:Int} {y:(List S93.ty)} (F0:F_slices_Delete_api_Letter_api_Letter x0 x1 x2=some y):Mut Tryz.prog 130 1 [.row 0,vi x1,vi x2] [(0,.row 93 S93 x0)] (.row 1) [(1,.row 93 S93 y)]:=by
 unfold F_slices_Delete_api_Letter_api_Letter at F0
 refine mut_of_run @Tryz.call130 @Tryz.func130 rfl rfl fun b=>?_
 refine sq rfl (rg [(0,.row 0),(1,vi x1),(2,vi x2)] [(0,.row 93 S93 x0)] [] [] 5000 rfl (by kernel_rfl) c0 (sq rfl ?_))
 obtain ⟨h1,F0⟩:=ifg F0
 refine rg [(0,.row 0),(1,vi x1),(2,vi x2)] [(0,.row 93 S93 x0)] [] [] 5000 rfl (by kernel_rfl) (cc h1.1 (cc h1.2.1 (cc h1.2.2.1 (cc h1.2.2.2.1 (cc h1.2.2.2.2.1 (cc h1.2.2.2.2.2 c0)))))) (sq rfl (sq rfl (rg [(0,.row 0),(1,vi x1),(2,vi x2),(16,vb (x1==x2))] [(0,.row 93 S93 x0)] [] [] 5000 rfl (by kernel_rfl) c0 ?_)))
 refine run_if rfl rfl (fun h2=>?_) (fun h2=>?_)
 ·replace F0:=ift h2 F0
  refine sq rfl (rg [(6,.row 0)] [(0,.row 93 S93 x0)] [] [] 5000 rfl (by kernel_rfl) c0 (run_ren (ρ':=[(6,.row 1)]) (H':=[(1,.row 93 S93 x0)]) 0 1 rfl (by kernel_rfl) rfl (by kernel_rfl) rfl ?_))
  obtain rfl:=inj F0
  exact ret_mut (q:=[.row 1]) [none] [1] rfl rfl (by kernel_rfl) rfl (by kernel_rfl)
 ·replace F0:=ifn h2 F0
  refine sk rfl (sq rfl (rg [(0,.row 0),(1,vi x1),(2,vi x2),(7,vi ((length x0:Nat):Int))] [(0,.row 93 S93 x0)] [] [] 5000 rfl (by kernel_rfl) c0 (sq rfl ?_)))
  obtain ⟨h3,F0⟩:=ifg F0
  obtain ⟨h4,F0⟩:=ifg F0
  obtain ⟨h5,F0⟩:=ifg F0
  refine rG [(0,.sub 0 4 0 ((toNat x1-0)+length (take (length x0-toNat x2) (drop (toNat x2) x0)))),(7,vi ((length x0:Nat):Int))] [(0,.row 93 S93 (take (toNat x1-0) x0++((take (length x0-toNat x2) (drop (toNat x2) x0))++drop ((toNat x1-0)+length (take (length x0-toNat x2) (drop (toNat x2) x0))) x0)))] [] [] 5000 rfl rfl (by kernel_rfl) (cc h3.1 (cc h3.2.1 (cc h3.2.2 (cc h4.1 (cc h4.2.1 (cc h4.2.2 (cc h5.1 (cc h5.2 c0)))))))) (sq rfl ?_)
  obtain ⟨h6,F0⟩:=ifg F0
  obtain ⟨h7,F0⟩:=ifg F0
  refine rg [(0,.sub 0 4 0 ((toNat x1-0)+length (take (length x0-toNat x2) (drop (toNat x2) x0))))] [(0,.row 93 S93 (take (0+(toNat ((((toNat x1-0)+length (take (length x0-toNat x2) (drop (toNat x2) x0))):Nat):Int))) (take (toNat x1-0) x0++((take (length x0-toNat x2) (drop (toNat x2) x0))++drop ((toNat x1-0)+length (take (length x0-toNat x2) (drop (toNat x2) x0))) x0))++(replicate (toNat ((length x0:Nat):Int)-toNat ((((toNat x1-0)+length (take (length x0-toNat x2) (drop (toNat x2) x0))):Nat):Int)) S93.dflt++drop ((0+(toNat ((((toNat x1-0)+length (take (length x0-toNat x2) (drop (toNat x2) x0))):Nat):Int)))+(toNat ((length x0:Nat):Int)-toNat ((((toNat x1-0)+length (take (length x0-toNat x2) (drop (toNat x2) x0))):Nat):Int))) (take (toNat x1-0) x0++((take (length x0-toNat x2) (drop (toNat x2) x0))++drop ((toNat x1-0)+length (take (length x0-toNat x2) (drop (toNat x2) x0))) x0)))))] [] [] 5000 rfl (by kernel_rfl) (cc h6.1 (cc h6.2.1 (cc h6.2.2.1 (cc h6.2.2.2 (cc h7 c0))))) (sq rfl (rg [(6,.sub 0 4 0 ((toNat x1-0)+length (take (length x0-toNat x2) (drop (toNat x2) x0))))] [(0,.row 93 S93 (take (0+(toNat ((((toNat x1-0)+length (take (length x0-toNat x2) (drop (toNat x2) x0))):Nat):Int))) (take (toNat x1-0) x0++((take (length x0-toNat x2) (drop (toNat x2) x0))++drop ((toNat x1-0)+length (take (length x0-toNat x2) (drop (toNat x2) x0))) x0))++(replicate (toNat ((length x0:Nat):Int)-toNat ((((toNat x1-0)+length (take (length x0-toNat x2) (drop (toNat x2) x0))):Nat):Int)) S93.dflt++drop ((0+(toNat ((((toNat x1-0)+length (take (length x0-toNat x2) (drop (toNat x2) x0))):Nat):Int)))+(toNat ((length x0:Nat):Int)-toNat ((((toNat x1-0)+length (take (length x0-toNat x2) (drop (toNat x2) x0))):Nat):Int))) (take (toNat x1-0) x0++((take (length x0-toNat x2) (drop (toNat x2) x0))++drop ((toNat x1-0)+length (take (length x0-toNat x2) (drop (toNat x2) x0))) x0)))))] [] [] 5000 rfl (by kernel_rfl) c0 ?_))
  obtain ⟨h8,F0⟩:=ifg F0
  refine run_subrow (H':=[(1,.row 93 S93 (take ((toNat x1-0)+length (take (length x0-toNat x2) (drop (toNat x2) x0))) (take (0+(toNat ((((toNat x1-0)+length (take (length x0-toNat x2) (drop (toNat x2) x0))):Nat):Int))) (take (toNat x1-0) x0++((take (length x0-toNat x2) (drop (toNat x2) x0))++drop ((toNat x1-0)+length (take (length x0-toNat x2) (drop (toNat x2) x0))) x0))++(replicate (toNat ((length x0:Nat):Int)-toNat ((((toNat x1-0)+length (take (length x0-toNat x2) (drop (toNat x2) x0))):Nat):Int)) S93.dflt++drop ((0+(toNat ((((toNat x1-0)+length (take (length x0-toNat x2) (drop (toNat x2) x0))):Nat):Int)))+(toNat ((length x0:Nat):Int)-toNat ((((toNat x1-0)+length (take (length x0-toNat x2) (drop (toNat x2) x0))):Nat):Int))) (take (toNat x1-0) x0++((take (length x0-toNat x2) (drop (toNat x2) x0))++drop ((toNat x1-0)+length (take (length x0-toNat x2) (drop (toNat x2) x0))) x0))))))]) 6 0 ((toNat x1-0)+length (take (length x0-toNat x2) (drop (toNat x2) x0))) 1 rfl (by kernel_rfl) rfl h8 rfl rfl (tm (ρ':=[(6,.row 1)]) (H':=[(1,.row 93 S93 (take ((toNat x1-0)+length (take (length x0-toNat x2) (drop (toNat x2) x0))) (take (0+(toNat ((((toNat x1-0)+length (take (length x0-toNat x2) (drop (toNat x2) x0))):Nat):Int))) (take (toNat x1-0) x0++((take (length x0-toNat x2) (drop (toNat x2) x0))++drop ((toNat x1-0)+length (take (length x0-toNat x2) (drop (toNat x2) x0))) x0))++(replicate (toNat ((length x0:Nat):Int)-toNat ((((toNat x1-0)+length (take (length x0-toNat x2) (drop (toNat x2) x0))):Nat):Int)) S93.dflt++drop ((0+(toNat ((((toNat x1-0)+length (take (length x0-toNat x2) (drop (toNat x2) x0))):Nat):Int)))+(toNat ((length x0:Nat):Int)-toNat ((((toNat x1-0)+length (take (length x0-toNat x2) (drop (toNat x2) x0))):Nat):Int))) (take (toNat x1-0) x0++((take (length x0-toNat x2) (drop (toNat x2) x0))++drop ((toNat x1-0)+length (take (length x0-toNat x2) (drop (toNat x2) x0))) x0))))))]) (by kernel_rfl) (by kernel_rfl) rfl ?_)
  obtain rfl:=inj F0
  exact ret_mut (q:=[.row 1]) [none] [1] rfl rfl (by kernel_rfl) rfl (by kernel_rfl)
end Go.Proofs.YtjcbamenfaoffaaGreatDoor
