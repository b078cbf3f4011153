/- Laws of my own that ClusterSame alone leans on. -/
import Derived.Test.YtjcbamenfaoffaaGreatDoorAA
set_option linter.unusedVariables false
set_option linter.unusedSimpArgs false
open List (length replicate getD drop take)
open Option.some (inj injEq)
open Int (toNat)
open Go.IntKind (wrap)
set_option maxRecDepth 100000
set_option linter.unusedVariables false
namespace Go.Proofs.YtjcbamenfaoffaaGreatDoor
open Go.RowKit
noncomputable def F_congressref15_Counts_b1 (x0:(List S50.ty)) (x1:Int) (x2:Int) (x3:S36.ty) (s1:(Int × (List Int))):Option ((Int × (List Int)) ⊕ (List Int)) :=
 if (decide (s1.1 < ((length x0:Nat):Int)))=true then (show Option Bool from if 0≤s1.1∧s1.1 < ((length x0:Nat):Int) then (if (((getD x0 (toNat s1.1) S50.dflt).1) == x1)=true then if 0≤s1.1∧s1.1 < ((length x0:Nat):Int) then (if ((((getD x0 (toNat s1.1) S50.dflt).2).1) == x2)=true then if 0≤s1.1∧s1.1 < ((length x0:Nat):Int) then (if (Sh.eqb S36 ((((getD x0 (toNat s1.1) S50.dflt).2).2).1) x3)=true then if 0≤s1.1∧s1.1 < ((length x0:Nat):Int) then (some (!(((((getD x0 (toNat s1.1) S50.dflt).2).2).2).1))) else none else some false) else none else some false) else none else some false) else none).bind (fun r2=>if (r2)=true then if 0≤s1.1∧s1.1 < ((length x0:Nat):Int) then (if 0≤(bits .and .i64 (((((((getD x0 (toNat s1.1) S50.dflt).2).2).2).2).1).1) 7)∧(bits .and .i64 (((((((getD x0 (toNat s1.1) S50.dflt).2).2).2).2).1).1) 7) < ((8:Nat):Int) then (if 0≤(bits .and .i64 (((((((getD x0 (toNat s1.1) S50.dflt).2).2).2).2).1).1) 7)∧(bits .and .i64 (((((((getD x0 (toNat s1.1) S50.dflt).2).2).2).2).1).1) 7) < ((8:Nat):Int) then (some (Sum.inl (wrap .i64 (s1.1 + 1),List.set s1.2 (toNat (bits .and .i64 (((((((getD x0 (toNat s1.1) S50.dflt).2).2).2).2).1).1) 7)) (wrap .u32 ((getD s1.2 (toNat (bits .and .i64 (((((((getD x0 (toNat s1.1) S50.dflt).2).2).2).2).1).1) 7)) 0) + 1))))) else none) else none) else none else some (Sum.inl (wrap .i64 (s1.1 + 1),s1.2))) else some (Sum.inr s1.2)
noncomputable def F_congressref15_Counts (x0:(List S50.ty)) (x1:Int) (x2:Int) (x3:S36.ty):Option (List Int) :=
 (loopO (F_congressref15_Counts_b1 x0 x1 x2 x3) (0,replicate 8 0)).bind (fun r1=>some r1)
theorem W_congressref15_Counts {x0:(List S50.ty)} {x1:Int} {x2:Int} {x3:S36.ty} {y:(List Int)} (hF0:F_congressref15_Counts x0 x1 x2 x3=some y):Pure Tryz.prog 12 [.v (.sl S50) x0,vi x1,.v (.int .u32) x2,.v S36 x3] (.v (.arr 8 (.int .u32)) y):=by
 unfold F_congressref15_Counts at hF0
 refine pure_of_run @Tryz.call12 @Tryz.func12 rfl rfl fun w M ho=>?_
 refine sq rfl (rg [(0,.v (.sl S50) x0),(1,vi x1),(2,.v (.int .u32) x2),(7,.ptr 5000 [] 0),(8,.ptr 5020 [] 0)] [(5000,.var 36 S36 x3),(5020,.var 52 (.arr 8 (.int .u32)) (replicate 8 0))] [] [] 5000 rfl (by kernel_rfl) c0 (sq rfl (rg [(0,.v (.sl S50) x0),(1,vi x1),(2,.v (.int .u32) x2),(7,.ptr 5000 [] 0),(8,.ptr 5020 [] 0),(9,.ptr 5041 [] 0)] [(5000,.var 36 S36 x3),(5020,.var 52 (.arr 8 (.int .u32)) (replicate 8 0)),(5041,.var 52 (.arr 8 (.int .u32)) (replicate 8 0))] [] [] 5021 rfl (by kernel_rfl) c0 (sq rfl (sq rfl (rg [(0,.v (.sl S50) x0),(1,vi x1),(2,.v (.int .u32) x2),(7,.ptr 5000 [] 0),(8,.ptr 5020 [] 0),(9,.ptr 5041 [] 0),(10,vi 0)] [(5000,.var 36 S36 x3),(5020,.var 52 (.arr 8 (.int .u32)) (replicate 8 0)),(5041,.var 52 (.arr 8 (.int .u32)) (replicate 8 0))] [] [] 5042 rfl (by kernel_rfl) c0 (bk rfl ?_)))))))
 obtain ⟨r1,hl1,hF0⟩:=obd hF0
 refine run_cutx 0 rfl (fun r1'=>r1=r1') (fun r1=>[(8,.ptr 5020 [] 0),(9,.ptr 5041 [] 0)]) (fun r1=>[(5020,.var 52 (.arr 8 (.int .u32)) (replicate 8 0)),(5041,.var 52 (.arr 8 (.int .u32)) r1)]) (fun r1' h1=>?_) (fun J1_0=>?_)
 ·subst h1
  refine sq rfl (rg [(8,.ptr 5020 [] 0)] [(5020,.var 52 (.arr 8 (.int .u32)) r1)] [] [] 5042 rfl (by kernel_rfl) c0 ?_)
  obtain rfl:=inj hF0
  exact ret_pure (q:=[.v (.arr 8 (.int .u32)) r1]) [(.arr 8 (.int .u32))] rfl rfl (by kernel_rfl)
 refine run_loop rfl (run_loopO hl1 (fun s1=>[(0,.v (.sl S50) x0),(1,vi x1),(2,.v (.int .u32) x2),(7,.ptr 5000 [] 0),(8,.ptr 5020 [] 0),(9,.ptr 5041 [] 0),(10,vi s1.1)]) (fun s1=>[(5000,.var 36 S36 x3),(5020,.var 52 (.arr 8 (.int .u32)) (replicate 8 0)),(5041,.var 52 (.arr 8 (.int .u32)) s1.2)]) rfl rfl (fun s1 o1 hF1 ih1 hr1=>?_))
 unfold F_congressref15_Counts_b1 at hF1
 refine run_again (sq rfl (sq rfl (rg [(0,.v (.sl S50) x0),(1,vi x1),(2,.v (.int .u32) x2),(7,.ptr 5000 [] 0),(8,.ptr 5020 [] 0),(9,.ptr 5041 [] 0),(10,vi s1.1),(15,vb (decide (s1.1 < ((length x0:Nat):Int))))] [(5000,.var 36 S36 x3),(5020,.var 52 (.arr 8 (.int .u32)) (replicate 8 0)),(5041,.var 52 (.arr 8 (.int .u32)) s1.2)] [] [] 5042 rfl (by kernel_rfl) c0 ?_)))
 refine run_if rfl rfl (fun h2=>?_) (fun h2=>?_)
 ·replace hF1:=ift h2 hF1
  refine sk rfl (sq rfl (bk rfl (sq rfl ?_)))
  obtain ⟨r2,hF2,hF1⟩:=obd hF1
  refine run_cut (fun r2'=>r2=r2') (fun r2=>[(0,.v (.sl S50) x0),(1,vi x1),(2,.v (.int .u32) x2),(7,.ptr 5000 [] 0),(8,.ptr 5020 [] 0),(9,.ptr 5041 [] 0),(10,vi s1.1),(51,vb r2)]) (fun r2=>[(5000,.var 36 S36 x3),(5020,.var 52 (.arr 8 (.int .u32)) (replicate 8 0)),(5041,.var 52 (.arr 8 (.int .u32)) s1.2)]) (fun r2' h3=>?_) (fun J2_0=>?_)
  ·subst h3
   refine run_if rfl rfl (fun h4=>?_) (fun h4=>?_)
   ·replace hF1:=ift h4 hF1
    obtain ⟨h5,hF1⟩:=ifg hF1
    obtain ⟨h6,hF1⟩:=ifg hF1
    obtain ⟨h7,hF1⟩:=ifg hF1
    refine rg [(0,.v (.sl S50) x0),(1,vi x1),(2,.v (.int .u32) x2),(7,.ptr 5000 [] 0),(8,.ptr 5020 [] 0),(9,.ptr 5041 [] 0),(10,vi s1.1)] [(5000,.var 36 S36 x3),(5020,.var 52 (.arr 8 (.int .u32)) (replicate 8 0)),(5041,.var 52 (.arr 8 (.int .u32)) (List.set s1.2 (toNat (bits .and .i64 (((((((getD x0 (toNat s1.1) S50.dflt).2).2).2).2).1).1) 7)) (wrap .u32 ((getD s1.2 (toNat (bits .and .i64 (((((((getD x0 (toNat s1.1) S50.dflt).2).2).2).2).1).1) 7)) 0) + 1))))] [] [] 5042 rfl (by kernel_rfl) (cc h5 (cc h6 (cc (show offP (.arr 8 (.int .u32)) [.i (toNat (bits .and .i64 (((((((getD x0 (toNat s1.1) S50.dflt).2).2).2).2).1).1) 7))]=(0 + toNat (bits .and .i64 (((((((getD x0 (toNat s1.1) S50.dflt).2).2).2).2).1).1) 7) * 1) from offJ (p:=[]) (q:=[]) rfl (by kernel_rfl) (by kernel_rfl) (by kernel_rfl)) (cc (oo h6 trivial) (cc h7 (cc (show offP (.arr 8 (.int .u32)) [.i (toNat (bits .and .i64 (((((((getD x0 (toNat s1.1) S50.dflt).2).2).2).2).1).1) 7))]=(0 + toNat (bits .and .i64 (((((((getD x0 (toNat s1.1) S50.dflt).2).2).2).2).1).1) 7) * 1) from offJ (p:=[]) (q:=[]) rfl (by kernel_rfl) (by kernel_rfl) (by kernel_rfl)) (cc (oo h7 trivial) c0))))))) (eb (rg [(0,.v (.sl S50) x0),(1,vi x1),(2,.v (.int .u32) x2),(7,.ptr 5000 [] 0),(8,.ptr 5020 [] 0),(9,.ptr 5041 [] 0),(10,vi (wrap .i64 (s1.1 + 1)))] [(5000,.var 36 S36 x3),(5020,.var 52 (.arr 8 (.int .u32)) (replicate 8 0)),(5041,.var 52 (.arr 8 (.int .u32)) (List.set s1.2 (toNat (bits .and .i64 (((((((getD x0 (toNat s1.1) S50.dflt).2).2).2).2).1).1) 7)) (wrap .u32 ((getD s1.2 (toNat (bits .and .i64 (((((((getD x0 (toNat s1.1) S50.dflt).2).2).2).2).1).1) 7)) 0) + 1))))] [] [] 5042 rfl (by kernel_rfl) c0 ?_))
    exact ih1 _ (inj hF1).symm
   ·replace hF1:=ifn h4 hF1
    refine sk rfl (eb (rg [(0,.v (.sl S50) x0),(1,vi x1),(2,.v (.int .u32) x2),(7,.ptr 5000 [] 0),(8,.ptr 5020 [] 0),(9,.ptr 5041 [] 0),(10,vi (wrap .i64 (s1.1 + 1)))] [(5000,.var 36 S36 x3),(5020,.var 52 (.arr 8 (.int .u32)) (replicate 8 0)),(5041,.var 52 (.arr 8 (.int .u32)) s1.2)] [] [] 5042 rfl (by kernel_rfl) c0 ?_))
    exact ih1 _ (inj hF1).symm
  obtain ⟨h8,hF2⟩:=ifg hF2
  rcases Bool.eq_false_or_eq_true (((getD x0 (toNat s1.1) S50.dflt).1) == x1) with h9 | h9
  ·replace hF2:=ift h9 hF2
   obtain ⟨h10,hF2⟩:=ifg hF2
   rcases Bool.eq_false_or_eq_true ((((getD x0 (toNat s1.1) S50.dflt).2).1) == x2) with h11 | h11
   ·replace hF2:=ift h11 hF2
    obtain ⟨h12,hF2⟩:=ifg hF2
    rcases Bool.eq_false_or_eq_true (Sh.eqb S36 ((((getD x0 (toNat s1.1) S50.dflt).2).2).1) x3) with h13 | h13
    ·replace hF2:=ift h13 hF2
     obtain ⟨h14,hF2⟩:=ifg hF2
     refine rG [(0,.v (.sl S50) x0),(1,vi x1),(2,.v (.int .u32) x2),(7,.ptr 5000 [] 0),(8,.ptr 5020 [] 0),(9,.ptr 5041 [] 0),(10,vi s1.1),(51,vb (!(((((getD x0 (toNat s1.1) S50.dflt).2).2).2).1)))] [(5000,.var 36 S36 x3),(5020,.var 52 (.arr 8 (.int .u32)) (replicate 8 0)),(5041,.var 52 (.arr 8 (.int .u32)) s1.2)] [] [(7,true),(16,true),(25,true)] 5042 rfl rfl (by kernel_rfl) (cc h8 (cc h9 (cc h10 (cc h11 (cc h12 (cc h13 (cc h14 c0))))))) ?_
     exact J2_0 _ (inj hF2).symm
    ·replace hF2:=ifn h13 hF2
     refine rG [(0,.v (.sl S50) x0),(1,vi x1),(2,.v (.int .u32) x2),(7,.ptr 5000 [] 0),(8,.ptr 5020 [] 0),(9,.ptr 5041 [] 0),(10,vi s1.1),(51,vb false)] [(5000,.var 36 S36 x3),(5020,.var 52 (.arr 8 (.int .u32)) (replicate 8 0)),(5041,.var 52 (.arr 8 (.int .u32)) s1.2)] [] [(7,true),(16,true),(25,false)] 5042 rfl rfl (by kernel_rfl) (cc h8 (cc h9 (cc h10 (cc h11 (cc h12 (cc h13 c0)))))) ?_
     exact J2_0 _ (inj hF2).symm
   ·replace hF2:=ifn h11 hF2
    refine rG [(0,.v (.sl S50) x0),(1,vi x1),(2,.v (.int .u32) x2),(7,.ptr 5000 [] 0),(8,.ptr 5020 [] 0),(9,.ptr 5041 [] 0),(10,vi s1.1),(51,vb false)] [(5000,.var 36 S36 x3),(5020,.var 52 (.arr 8 (.int .u32)) (replicate 8 0)),(5041,.var 52 (.arr 8 (.int .u32)) s1.2)] [] [(7,true),(16,false)] 5042 rfl rfl (by kernel_rfl) (cc h8 (cc h9 (cc h10 (cc h11 c0)))) ?_
    exact J2_0 _ (inj hF2).symm
  ·replace hF2:=ifn h9 hF2
   refine rG [(0,.v (.sl S50) x0),(1,vi x1),(2,.v (.int .u32) x2),(7,.ptr 5000 [] 0),(8,.ptr 5020 [] 0),(9,.ptr 5041 [] 0),(10,vi s1.1),(51,vb false)] [(5000,.var 36 S36 x3),(5020,.var 52 (.arr 8 (.int .u32)) (replicate 8 0)),(5041,.var 52 (.arr 8 (.int .u32)) s1.2)] [] [(7,false)] 5042 rfl rfl (by kernel_rfl) (cc h8 (cc h9 c0)) ?_
   exact J2_0 _ (inj hF2).symm
 ·replace hF1:=ifn h2 hF1
  refine run_exit rfl rfl (tm (ρ':=[(8,.ptr 5020 [] 0),(9,.ptr 5041 [] 0)]) (H':=[(5020,.var 52 (.arr 8 (.int .u32)) (replicate 8 0)),(5041,.var 52 (.arr 8 (.int .u32)) s1.2)]) (by kernel_rfl) (by kernel_rfl) rfl ?_)
  exact J1_0 _ (inrI hr1 hF1).symm
noncomputable def F_congresslaw15_ClusterSame_b3 (s2:Int) (t1:(S29.ty × (List S50.ty) × Bool)) (s3:Int):Option (Int ⊕ (Bool ⊕ Unit)) :=
 if (decide (s3 < s2))=true then if 0≤s3∧s3 < ((length t1.2.1:Nat):Int) then (show Option Bool from if (((((getD t1.2.1 (toNat s3) S50.dflt).2).2).2).1)=true then if (Sh.eqb S36 ((((getD t1.2.1 (toNat s3) S50.dflt).2).2).1) ((((getD t1.2.1 (toNat s2) S50.dflt).2).2).1))=true then if (Sh.eqb S36 (((((((getD t1.2.1 (toNat s3) S50.dflt).2).2).2).2).2).1) (((((((getD t1.2.1 (toNat s2) S50.dflt).2).2).2).2).2).1))=true then (F_congressref15_Counts t1.2.1 ((getD t1.2.1 (toNat s2) S50.dflt).1) (((getD t1.2.1 (toNat s2) S50.dflt).2).1) ((((getD t1.2.1 (toNat s2) S50.dflt).2).2).1)).bind fun t3=>((F_congressref15_Counts t1.2.1 ((getD t1.2.1 (toNat s3) S50.dflt).1) (((getD t1.2.1 (toNat s3) S50.dflt).2).1) ((((getD t1.2.1 (toNat s3) S50.dflt).2).2).1)).bind fun t4=>(some (!(Sh.eqb (.arr 8 (.int .u32)) t3 t4)))) else some false else some false else some false).bind (fun r4=>if (r4)=true then some (Sum.inr (Sum.inl false)) else some (Sum.inl (wrap .i64 (s3 + 1)))) else none else some (Sum.inr (Sum.inr ()))
noncomputable def F_congresslaw15_ClusterSame_b2 (t1:(S29.ty × (List S50.ty) × Bool)) (s2:Int):Option (Int ⊕ (Bool ⊕ Unit)) :=
 if (decide (s2 < ((length t1.2.1:Nat):Int)))=true then if 0≤s2∧s2 < ((length t1.2.1:Nat):Int) then (if (!(((((getD t1.2.1 (toNat s2) S50.dflt).2).2).2).1))=true then some (Sum.inl (wrap .i64 (s2 + 1))) else (loopO (F_congresslaw15_ClusterSame_b3 s2 t1) 0).bind (Sum.elim (fun y3=>some (Sum.inr (Sum.inl y3))) (fun j31=>some (Sum.inl (wrap .i64 (s2 + 1)))))) else none else some (Sum.inr (Sum.inr ()))
noncomputable def F_congresslaw15_ClusterSame (x0:S24.ty):Option Bool :=
 (F_congresslaw15_played x0).bind fun t1=>((show Option Bool from (F_congresslaw15_fixed ).bind fun t5=>(if (!t5)=true then some true else some (!t1.2.2))).bind (fun r1=>if (r1)=true then (F_congresslaw15_fixed ).bind fun t2=>(some t2) else (loopO (F_congresslaw15_ClusterSame_b2 t1) 0).bind (Sum.elim some (fun j21=>some true))))
theorem W_congresslaw15_ClusterSame {x0:S24.ty} {y:Bool} (hF0:F_congresslaw15_ClusterSame x0=some y):Pure Tryz.prog 5 [.v S24 x0] (vb y):=by
 unfold F_congresslaw15_ClusterSame at hF0
 refine pure_of_run @Tryz.call5 @Tryz.func5 rfl rfl fun w M ho=>?_
 refine sq rfl (rg [(1,.ptr 5000 [] 0)] [(5000,.var 24 S24 x0)] [] [] 5000 rfl (by kernel_rfl) c0 (sq rfl ?_))
 obtain ⟨t1,h1,hF0⟩:=obd hF0
 refine rg [(4,.v (.sl S50) t1.2.1),(5,vb t1.2.2)] [] [(1,⟨[.v S24],.tup [.v S29 t1.1,.v (.sl S50) t1.2.1,vb t1.2.2],none⟩)] [] 5001 rfl (by kernel_rfl) (cc (W_congresslaw15_played h1) c0) (sq rfl (sq rfl ?_))
 obtain ⟨r1,hF1,hF0⟩:=obd hF0
 refine run_cut (fun r1'=>r1=r1') (fun r1=>[(4,.v (.sl S50) t1.2.1),(21,vb r1)]) (fun r1=>[]) (fun r1' h2=>?_) (fun J1_0=>?_)
 ·subst h2
  refine run_if rfl rfl (fun h3=>?_) (fun h3=>?_)
  ·replace hF0:=ift h3 hF0
   refine sq rfl ?_
   obtain ⟨t2,h4,hF0⟩:=obd hF0
   refine rg [(2,vb t2)] [] [(0,⟨[],vb t2,none⟩)] [] 5000 rfl (by kernel_rfl) (cc (W_congresslaw15_fixed h4) c0) ?_
   obtain rfl:=inj hF0
   exact ret_pure (q:=[vb t2]) [.bool] rfl rfl (by kernel_rfl)
  ·replace hF0:=ifn h3 hF0
   refine sk rfl (sq rfl (sq rfl (rg [(4,.v (.sl S50) t1.2.1),(6,vi 0)] [] [] [] 5000 rfl (by kernel_rfl) c0 (bk rfl ?_))))
   obtain ⟨r2,hl2,hF0⟩:=obd hF0
   refine run_cutx 0 rfl (fun j21=>r2=Sum.inr j21) (fun j21=>[]) (fun j21=>[]) (fun j21 h5=>?_) (fun J2_1=>?_)
   ·subst h5
    replace hF0:=sumR hF0
    refine sq rfl (rg [(2,vb true)] [] [] [] 5000 rfl (by kernel_rfl) c0 ?_)
    obtain rfl:=inj hF0
    exact ret_pure (q:=[vb true]) [.bool] rfl rfl (by kernel_rfl)
   refine run_loop rfl (run_loopO hl2 (fun s2=>[(4,.v (.sl S50) t1.2.1),(6,vi s2)]) (fun s2=>[]) rfl rfl (fun s2 o2 hF1 ih2 hr2=>?_))
   unfold F_congresslaw15_ClusterSame_b2 at hF1
   refine run_again (sq rfl (sq rfl (rg [(4,.v (.sl S50) t1.2.1),(6,vi s2),(26,vb (decide (s2 < ((length t1.2.1:Nat):Int))))] [] [] [] 5000 rfl (by kernel_rfl) c0 ?_)))
   refine run_if rfl rfl (fun h6=>?_) (fun h6=>?_)
   ·replace hF1:=ift h6 hF1
    refine sk rfl (sq rfl (bk rfl (sq rfl ?_)))
    obtain ⟨h7,hF1⟩:=ifg hF1
    refine rg [(4,.v (.sl S50) t1.2.1),(6,vi s2),(7,.ptr 5080 [] 0)] [(5080,.var 50 S50 (getD t1.2.1 (toNat s2) S50.dflt))] [] [] 5000 rfl (by kernel_rfl) (cc h7 c0) (sq rfl (sq rfl (rg [(4,.v (.sl S50) t1.2.1),(6,vi s2),(7,.ptr 5080 [] 0),(36,vb (!(((((getD t1.2.1 (toNat s2) S50.dflt).2).2).2).1)))] [(5080,.var 50 S50 (getD t1.2.1 (toNat s2) S50.dflt))] [] [] 5081 rfl (by kernel_rfl) c0 ?_)))
    refine run_if rfl rfl (fun h8=>?_) (fun h8=>?_)
    ·replace hF1:=ift h8 hF1
     refine run_exit rfl rfl (rg [(4,.v (.sl S50) t1.2.1),(6,vi (wrap .i64 (s2 + 1)))] [] [] [] 5081 rfl (by kernel_rfl) c0 ?_)
     exact ih2 _ (inj hF1).symm
    ·replace hF1:=ifn h8 hF1
     refine sk rfl (sq rfl (rg [(4,.v (.sl S50) t1.2.1),(6,vi s2),(7,.ptr 5080 [] 0),(8,vi 0)] [(5080,.var 50 S50 (getD t1.2.1 (toNat s2) S50.dflt))] [] [] 5081 rfl (by kernel_rfl) c0 (bk rfl ?_)))
     obtain ⟨r3,hl3,hF1⟩:=obd hF1
     refine run_cutx 2 rfl (fun j31=>r3=Sum.inr j31) (fun j31=>[(4,.v (.sl S50) t1.2.1),(6,vi s2)]) (fun j31=>[]) (fun j31 h9=>?_) (fun J3_1=>?_)
     ·subst h9
      replace hF1:=sumR hF1
      refine eb (rg [(4,.v (.sl S50) t1.2.1),(6,vi (wrap .i64 (s2 + 1)))] [] [] [] 5000 rfl (by kernel_rfl) c0 ?_)
      exact ih2 _ (inj hF1).symm
     refine run_loop rfl (run_loopO hl3 (fun s3=>[(4,.v (.sl S50) t1.2.1),(6,vi s2),(7,.ptr 5080 [] 0),(8,vi s3)]) (fun s3=>[(5080,.var 50 S50 (getD t1.2.1 (toNat s2) S50.dflt))]) rfl rfl (fun s3 o3 hF2 ih3 hr3=>?_))
     unfold F_congresslaw15_ClusterSame_b3 at hF2
     refine run_again (sq rfl (sq rfl (rg [(4,.v (.sl S50) t1.2.1),(6,vi s2),(7,.ptr 5080 [] 0),(8,vi s3),(39,vb (decide (s3 < s2)))] [(5080,.var 50 S50 (getD t1.2.1 (toNat s2) S50.dflt))] [] [] 5081 rfl (by kernel_rfl) c0 ?_)))
     refine run_if rfl rfl (fun h10=>?_) (fun h10=>?_)
     ·replace hF2:=ift h10 hF2
      refine sk rfl (sq rfl (bk rfl (sq rfl ?_)))
      obtain ⟨h11,hF2⟩:=ifg hF2
      refine rg [(4,.v (.sl S50) t1.2.1),(6,vi s2),(7,.ptr 5080 [] 0),(8,vi s3),(9,.ptr 5161 [] 0)] [(5080,.var 50 S50 (getD t1.2.1 (toNat s2) S50.dflt)),(5161,.var 50 S50 (getD t1.2.1 (toNat s3) S50.dflt))] [] [] 5081 rfl (by kernel_rfl) (cc h11 c0) (sq rfl ?_)
      obtain ⟨r4,hF3,hF2⟩:=obd hF2
      refine run_cut (fun r4'=>r4=r4') (fun r4=>[(4,.v (.sl S50) t1.2.1),(6,vi s2),(7,.ptr 5080 [] 0),(8,vi s3),(83,vb r4)]) (fun r4=>[(5080,.var 50 S50 (getD t1.2.1 (toNat s2) S50.dflt))]) (fun r4' h12=>?_) (fun J4_0=>?_)
      ·subst h12
       refine run_if rfl rfl (fun h13=>?_) (fun h13=>?_)
       ·replace hF2:=ift h13 hF2
        refine sq rfl (rg [(2,vb false)] [] [] [] 5081 rfl (by kernel_rfl) c0 ?_)
        have e3:=inrI hr3 hF2
        subst e3
        replace hF1:=sumL hF1
        have e2:=inrI hr2 hF1
        subst e2
        replace hF0:=sumL hF0
        obtain rfl:=inj hF0
        exact ret_pure (q:=[vb false]) [.bool] rfl rfl (by kernel_rfl)
       ·replace hF2:=ifn h13 hF2
        refine sk rfl (eb (rg [(4,.v (.sl S50) t1.2.1),(6,vi s2),(7,.ptr 5080 [] 0),(8,vi (wrap .i64 (s3 + 1)))] [(5080,.var 50 S50 (getD t1.2.1 (toNat s2) S50.dflt))] [] [] 5081 rfl (by kernel_rfl) c0 ?_))
        exact ih3 _ (inj hF2).symm
      rcases Bool.eq_false_or_eq_true (((((getD t1.2.1 (toNat s3) S50.dflt).2).2).2).1) with h14 | h14
      ·replace hF3:=ift h14 hF3
       rcases Bool.eq_false_or_eq_true (Sh.eqb S36 ((((getD t1.2.1 (toNat s3) S50.dflt).2).2).1) ((((getD t1.2.1 (toNat s2) S50.dflt).2).2).1)) with h15 | h15
       ·replace hF3:=ift h15 hF3
        rcases Bool.eq_false_or_eq_true (Sh.eqb S36 (((((((getD t1.2.1 (toNat s3) S50.dflt).2).2).2).2).2).1) (((((((getD t1.2.1 (toNat s2) S50.dflt).2).2).2).2).2).1)) with h16 | h16
        ·replace hF3:=ift h16 hF3
         obtain ⟨t3,h17,hF3⟩:=obd hF3
         obtain ⟨t4,h18,hF3⟩:=obd hF3
         refine rG [(4,.v (.sl S50) t1.2.1),(6,vi s2),(7,.ptr 5080 [] 0),(8,vi s3),(83,vb (!(Sh.eqb (.arr 8 (.int .u32)) t3 t4)))] [(5080,.var 50 S50 (getD t1.2.1 (toNat s2) S50.dflt))] [(27,⟨[.v (.sl S50),.v (.int .i64),.v (.int .u32),.v S36],.v (.arr 8 (.int .u32)) t3,none⟩),(35,⟨[.v (.sl S50),.v (.int .i64),.v (.int .u32),.v S36],.v (.arr 8 (.int .u32)) t4,none⟩)] [(3,true),(10,true),(19,true)] 5162 rfl rfl (by kernel_rfl) (cc h14 (cc h15 (cc h16 (cc (W_congressref15_Counts h17) (cc (W_congressref15_Counts h18) c0))))) ?_
         exact J4_0 _ (inj hF3).symm
        ·replace hF3:=ifn h16 hF3
         refine rG [(4,.v (.sl S50) t1.2.1),(6,vi s2),(7,.ptr 5080 [] 0),(8,vi s3),(83,vb false)] [(5080,.var 50 S50 (getD t1.2.1 (toNat s2) S50.dflt))] [] [(3,true),(10,true),(19,false)] 5162 rfl rfl (by kernel_rfl) (cc h14 (cc h15 (cc h16 c0))) ?_
         exact J4_0 _ (inj hF3).symm
       ·replace hF3:=ifn h15 hF3
        refine rG [(4,.v (.sl S50) t1.2.1),(6,vi s2),(7,.ptr 5080 [] 0),(8,vi s3),(83,vb false)] [(5080,.var 50 S50 (getD t1.2.1 (toNat s2) S50.dflt))] [] [(3,true),(10,false)] 5162 rfl rfl (by kernel_rfl) (cc h14 (cc h15 c0)) ?_
        exact J4_0 _ (inj hF3).symm
      ·replace hF3:=ifn h14 hF3
       refine rG [(4,.v (.sl S50) t1.2.1),(6,vi s2),(7,.ptr 5080 [] 0),(8,vi s3),(83,vb false)] [(5080,.var 50 S50 (getD t1.2.1 (toNat s2) S50.dflt))] [] [(3,false)] 5162 rfl rfl (by kernel_rfl) (cc h14 c0) ?_
       exact J4_0 _ (inj hF3).symm
     ·replace hF2:=ifn h10 hF2
      refine run_exit rfl rfl (tm (ρ':=[(4,.v (.sl S50) t1.2.1),(6,vi s2)]) (H':=[]) (by kernel_rfl) (by kernel_rfl) rfl ?_)
      exact J3_1 _ (inrI hr3 hF2).symm
   ·replace hF1:=ifn h6 hF1
    refine run_exit rfl rfl (tm (ρ':=[]) (H':=[]) (by kernel_rfl) (by kernel_rfl) rfl ?_)
    exact J2_1 _ (inrI hr2 hF1).symm
 obtain ⟨t5,h19,hF1⟩:=obd hF1
 rcases Bool.eq_false_or_eq_true (!t5) with h20 | h20
 ·replace hF1:=ift h20 hF1
  refine rg [(4,.v (.sl S50) t1.2.1),(21,vb true)] [] [(0,⟨[],vb t5,none⟩)] [(2,true)] 5000 rfl (by kernel_rfl) (cc (W_congresslaw15_fixed h19) (cc h20 c0)) ?_
  exact J1_0 _ (inj hF1).symm
 ·replace hF1:=ifn h20 hF1
  refine rg [(4,.v (.sl S50) t1.2.1),(21,vb (!t1.2.2))] [] [(0,⟨[],vb t5,none⟩)] [(2,false)] 5000 rfl (by kernel_rfl) (cc (W_congresslaw15_fixed h19) (cc h20 c0)) ?_
  exact J1_0 _ (inj hF1).symm
end Go.Proofs.YtjcbamenfaoffaaGreatDoor
set_option linter.unusedVariables false
set_option linter.unusedSimpArgs false
namespace Go.Proofs.YtjcbamenfaoffaaGreatDoor.Mo
section
variable {φ:Type} {n:Nat} {w:MW φ}
theorem m_same (I:InvM n w) {t s:MT φ} (ht:t ∈ w.told) (hs:s ∈ w.told) (tv:t.view=true) (sv:s.view=true) (h1:s.inn=t.inn) (h2:s.conf=t.conf) (f:Nat):Cn w.told t.who t.inc t.inn f=Cn w.told s.who s.inc s.inn f:=by
 obtain ⟨u,hu,e⟩:=(I.l t ht).v2 tv
 obtain ⟨v,hv,e2⟩:=(I.l s hs).v2 sv
 rw [e,e2]
 rw [h1,h2] at hv
 rw [hu.uniq hv]
end
end Go.Proofs.YtjcbamenfaoffaaGreatDoor.Mo
set_option linter.unusedVariables false
set_option linter.unusedSimpArgs false
namespace Go.Proofs.YtjcbamenfaoffaaGreatDoor.Cl
open Go.RowKit Go.IntWalk Mo
theorem and7 {x:Int} (h:0≤x∧x≤7):bits .and .i64 x 7=x:=by
 rcases (show x=0∨x=1∨x=2∨x=3∨x=4∨x=5∨x=6∨x=7 by omega) with rfl | rfl | rfl | rfl | rfl | rfl | rfl | rfl<;>decide
end Go.Proofs.YtjcbamenfaoffaaGreatDoor.Cl
set_option linter.unusedVariables false
set_option linter.unusedSimpArgs false
namespace Go.Proofs.YtjcbamenfaoffaaGreatDoor.Cl
open Go.RowKit Go.IntWalk Mo
theorem Cn_le (l:List (MT FrT)) (who:Nat) (inc inn:Int) (k:Nat):Cn l who inc inn k≤(l.length:Int):=by
 induction l with
 | nil=>simp [Cn]
 | cons t l ih=>simp only [Cn,List.length_cons];split<;>omega
theorem f_Counts {t:List ToT} (ht:∀ x ∈ t,okTo x) (hlen:t.length≤1350) (w:Nat) (inc:Int) {inn:I3} (hin:okI3 inn) :
  ∃ r:List Int,F_congressref15_Counts t (w:Int) inc inn=some r∧r.length=8∧∀ k,k < 8→r.getD k 0=Cn (t.map toM) w inc (rk inn) k:=by
 unfold F_congressref15_Counts
 have:=loop_for (N:=t.length) (mk:=fun (k:Nat) (s:List Int)=>((k:Int),s)) (body:=F_congressref15_Counts_b1 t (w:Int) inc inn)
  (fun i s=>if (t.getD i toZ).1=(w:Int)∧(t.getD i toZ).2.1=inc∧(t.getD i toZ).2.2.1=inn∧(t.getD i toZ).2.2.2.1=false then s.set (t.getD i toZ).2.2.2.2.1.1.toNat (s.getD (t.getD i toZ).2.2.2.2.1.1.toNat 0 + 1) else s) (fun s=>s)
  (fun i s=>s.length=8∧∀ k,k < 8→s.getD k 0=Cn ((t.take i).map toM) w inc (rk inn) k) (fun i s hi hs=>?_) (fun s _=>?_) (s:=replicate 8 0) ⟨by simp,fun k _=>by rw [getD_zero];simp [Cn]⟩
 ·obtain ⟨e,i1,i2⟩:=this
  have e:loopO (F_congressref15_Counts_b1 t (w:Int) inc inn) (0,replicate 8 0)=_:=e
  rw [List.take_length] at i2
  rw [e]
  exact ⟨_,rfl,i1,i2⟩
 ·have ok:okTo (t.getD i toZ):=by rw [getD_lt hi];exact ht _ (List.getElem_mem hi)
  have oka:=ok.a
  have okf:=ok.d.k.a
  have hstep:∀ k,Cn ((t.take (i + 1)).map toM) w inc (rk inn) k=Cn ((t.take i).map toM) w inc (rk inn) k + if hit w inc (rk inn) k (toM (t.getD i toZ))=true then 1 else 0:=by
   intro k
   rw [List.take_add_one,List.getElem?_eq_getElem hi,List.map_append,Cn_app,← getD_lt (d:=toZ) hi]
   exact congrArg _ (Cn_single _ _ _ _ _)
  have hhit:∀ k,hit w inc (rk inn) k (toM (t.getD i toZ))=true↔((t.getD i toZ).1=(w:Int)∧(t.getD i toZ).2.1=inc∧(t.getD i toZ).2.2.1=inn∧(t.getD i toZ).2.2.2.1=false)∧(t.getD i toZ).2.2.2.2.1.1.toNat=k:=by
   intro k
   rw [hit_iff]
   have e1:(toM (t.getD i toZ)).who=w↔(t.getD i toZ).1=(w:Int):=by
    show (t.getD i toZ).1.toNat=w↔_
    omega
   have e2:(toM (t.getD i toZ)).inn=rk inn↔(t.getD i toZ).2.2.1=inn:=rk_eq ok.c.ok hin
   rw [e1,e2]
   constructor
   ·rintro ⟨a,b,c,d,e⟩;exact ⟨⟨b,c,d,a⟩,e⟩
   ·rintro ⟨⟨b,c,d,a⟩,e⟩;exact ⟨a,b,c,d,e⟩
  have hcl:∀ k,k < 8→0≤s.getD k 0∧s.getD k 0≤1350:=by
   intro k hk
   rw [hs.2 k hk]
   have a:=Cn_nn ((t.take i).map toM) w inc (rk inn) k
   have b:=Cn_le ((t.take i).map toM) w inc (rk inn) k
   rw [List.length_map,List.length_take] at b
   omega
  refine ⟨?_,?_,fun k hk=>?_⟩
  ·simp only [F_congressref15_Counts_b1]
   have hrg:0≤(i:Int)∧(i:Int) < (t.length:Int):=by omega
   rw [if_pos (by simp;omega)]
   simp only [Int.toNat_natCast,wi (show i < 1000000000000 by omega)]
   by_cases k1:(t.getD i toZ).1=(w:Int)
   ·have k1':((getD t i S50.dflt).1 == (w:Int))=true:=by simpa using k1
    rw [if_pos hrg,if_pos k1']
    by_cases k2:(t.getD i toZ).2.1=inc
    ·have k2':((getD t i S50.dflt).2.1 == inc)=true:=by simpa using k2
     rw [if_pos hrg,if_pos k2']
     by_cases k3:(t.getD i toZ).2.2.1=inn
     ·have k3':Sh.eqb S36 (getD t i S50.dflt).2.2.1 inn=true:=eqI.2 k3
      rw [if_pos hrg,if_pos k3',if_pos hrg]
      simp only [Option.bind_some]
      by_cases k4:(t.getD i toZ).2.2.2.1=false
      ·have k4':(!(getD t i S50.dflt).2.2.2.1)=true:=by rw [show (getD t i S50.dflt).2.2.2.1=false from k4];decide
       have e7:bits .and .i64 (getD t i S50.dflt).2.2.2.2.1.1 7=(t.getD i toZ).2.2.2.2.1.1:=and7 okf
       have hc:=hcl (t.getD i toZ).2.2.2.2.1.1.toNat (by omega)
       have h8:0≤(t.getD i toZ).2.2.2.2.1.1∧(t.getD i toZ).2.2.2.2.1.1 < ((8:Nat):Int):=by omega
       have hcc:(t.getD i toZ).1=(w:Int)∧(t.getD i toZ).2.1=inc∧(t.getD i toZ).2.2.1=inn∧(t.getD i toZ).2.2.2.1=false:=⟨k1,k2,k3,k4⟩
       rw [if_pos k4',if_pos hrg,e7,if_pos h8,if_pos h8,wr32 (by omega),if_pos hcc]
      ·have k4':¬ (!(getD t i S50.dflt).2.2.2.1)=true:=by rw [show (getD t i S50.dflt).2.2.2.1=true by simpa using k4];decide
       rw [if_neg k4',if_neg (fun q=>k4 q.2.2.2)]
     ·have k3':¬ Sh.eqb S36 (getD t i S50.dflt).2.2.1 inn=true:=fun q=>k3 (eqI.1 q)
      rw [if_pos hrg,if_neg k3']
      simp only [Option.bind_some]
      rw [if_neg (by decide),if_neg (fun q=>k3 q.2.2.1)]
    ·have k2':¬ ((getD t i S50.dflt).2.1 == inc)=true:=by simpa using k2
     rw [if_pos hrg,if_neg k2']
     simp only [Option.bind_some]
     rw [if_neg (by decide),if_neg (fun q=>k2 q.2.1)]
   ·have k1':¬ ((getD t i S50.dflt).1 == (w:Int))=true:=by simpa using k1
    rw [if_pos hrg,if_neg k1']
    simp only [Option.bind_some]
    rw [if_neg (by decide),if_neg (fun q=>k1 q.1)]
  ·split
   ·rw [List.length_set];exact hs.1
   ·exact hs.1
  ·rw [hstep k]
   by_cases q:(t.getD i toZ).1=(w:Int)∧(t.getD i toZ).2.1=inc∧(t.getD i toZ).2.2.1=inn∧(t.getD i toZ).2.2.2.1=false
   ·rw [if_pos q,getD_set (by rw [hs.1];omega)]
    by_cases e:k=(t.getD i toZ).2.2.2.2.1.1.toNat
    ·rw [if_pos e,if_pos ((hhit k).2 ⟨q,e.symm⟩),← e,hs.2 k hk]
    ·rw [if_neg e,if_neg (fun z=>e ((hhit k).1 z).2.symm),hs.2 k hk];omega
   ·rw [if_neg q,if_neg (fun z=>q ((hhit k).1 z).1),hs.2 k hk];omega
 ·simp only [F_congressref15_Counts_b1]
  rw [if_neg (by simp)]
end Go.Proofs.YtjcbamenfaoffaaGreatDoor.Cl
set_option linter.unusedVariables false
set_option linter.unusedSimpArgs false
namespace Go.Proofs.YtjcbamenfaoffaaGreatDoor.Cl
open Go.RowKit Go.IntWalk Mo
theorem t_same {n:Nat} {t:List ToT} (T:Told n t) {i k:Nat} (hi:i < t.length) (hk:k < t.length) (hv:(t.getD i toZ).2.2.2.1=true) (kv:(t.getD k toZ).2.2.2.1=true) (h1:(t.getD k toZ).2.2.1=(t.getD i toZ).2.2.1) (h2:(t.getD k toZ).2.2.2.2.2.1=(t.getD i toZ).2.2.2.2.2.1) (f:Nat) :
  Cn (t.map toM) (t.getD i toZ).1.toNat (t.getD i toZ).2.1 (rk (t.getD i toZ).2.2.1) f=Cn (t.map toM) (t.getD k toZ).1.toNat (t.getD k toZ).2.1 (rk (t.getD k toZ).2.2.1) f:=by
 obtain ⟨w,I,ew⟩:=T.w
 have mem:∀ j,j < t.length→toM (t.getD j toZ) ∈ w.told:=by
  intro j hj
  rw [ew]
  exact List.mem_map.2 ⟨_,by rw [getD_lt hj];exact List.getElem_mem hj,rfl⟩
 have:=m_same I (mem i hi) (mem k hk) hv kv (by show rk _=rk _;rw [h1]) (by show rk _=rk _;rw [h2]) f
 rw [ew] at this
 exact this
theorem l_Same {x:PlT} (h:okPl x) (hl:x.2.2.length≤maxLen):F_congresslaw15_ClusterSame x=some true:=by
 unfold F_congresslaw15_ClusterSame
 refine l_head h hl (fun t1=>(loopO (F_congresslaw15_ClusterSame_b2 t1) 0).bind (Sum.elim some (fun j21=>some true))) fun n c t T=>?_
 have hlen:=T.len
 have:loopO (F_congresslaw15_ClusterSame_b2 (c,t,true)) 0=some (.inr ()):=by
  refine loop_skip (N:=t.length) (mk:=fun (k:Nat)=>(k:Int)) (fun i hi=>?_) ?_
  ·simp only [F_congresslaw15_ClusterSame_b2]
   rw [if_pos (by simp;omega),if_pos (by omega)]
   simp only [Int.toNat_natCast,wi (show i < 1000000000000 by omega)]
   by_cases hv:(t.getD i toZ).2.2.2.1=true
   ·have hv':¬ (!(getD t i S50.dflt).2.2.2.1)=true:=by rw [show (getD t i S50.dflt).2.2.2.1=true from hv];decide
    have inner:loopO (F_congresslaw15_ClusterSame_b3 (i:Int) (c,t,true)) 0=some (.inr ()):=by
     refine loop_skip (N:=i) (mk:=fun (k:Nat)=>(k:Int)) (fun k hk=>?_) ?_
     ·simp only [F_congresslaw15_ClusterSame_b3]
      rw [if_pos (by simp;omega),if_pos (by omega)]
      simp only [Int.toNat_natCast,wi (show k < 1000000000000 by omega)]
      by_cases k1:(t.getD k toZ).2.2.2.1=true
      ·have k1':(getD t k S50.dflt).2.2.2.1=true:=k1
       rw [if_pos k1']
       by_cases k2:(t.getD k toZ).2.2.1=(t.getD i toZ).2.2.1
       ·have k2':Sh.eqb S36 (getD t k S50.dflt).2.2.1 (getD t i S50.dflt).2.2.1=true:=eqI.2 k2
        rw [if_pos k2']
        by_cases k3:(t.getD k toZ).2.2.2.2.2.1=(t.getD i toZ).2.2.2.2.2.1
        ·have k3':Sh.eqb S36 (getD t k S50.dflt).2.2.2.2.2.1 (getD t i S50.dflt).2.2.2.2.2.1=true:=eqI.2 k3
         have oi:=told_ok T hi
         have ok:=told_ok T (i:=k) (by omega)
         have oia:=oi.a
         have oka:=ok.a
         obtain ⟨r1,e1,l1,g1⟩:=f_Counts T.ok hlen (t.getD i toZ).1.toNat (t.getD i toZ).2.1 oi.c.ok
         obtain ⟨r2,e2,l2,g2⟩:=f_Counts T.ok hlen (t.getD k toZ).1.toNat (t.getD k toZ).2.1 ok.c.ok
         rw [toI oia.1] at e1
         rw [toI oka.1] at e2
         have er:r1=r2:=ext8 l1 l2 fun f hf=>by
          rw [g1 f hf,g2 f hf];exact t_same T hi (by omega) hv k1 k2 k3 f
         have e1':F_congressref15_Counts t (getD t i S50.dflt).1 (getD t i S50.dflt).2.1 (getD t i S50.dflt).2.2.1=some r1:=e1
         have e2':F_congressref15_Counts t (getD t k S50.dflt).1 (getD t k S50.dflt).2.1 (getD t k S50.dflt).2.2.1=some r2:=e2
         rw [if_pos k3',e1',Option.bind_some,e2',Option.bind_some,er,show Sh.eqb (.arr 8 (.int .u32)) r2 r2=true from eq8.2 rfl]
         rfl
        ·have k3':¬ Sh.eqb S36 (getD t k S50.dflt).2.2.2.2.2.1 (getD t i S50.dflt).2.2.2.2.2.1=true:=fun q=>k3 (eqI.1 q)
         rw [if_neg k3'];rfl
       ·have k2':¬ Sh.eqb S36 (getD t k S50.dflt).2.2.1 (getD t i S50.dflt).2.2.1=true:=fun q=>k2 (eqI.1 q)
        rw [if_neg k2'];rfl
      ·have k1':¬ (getD t k S50.dflt).2.2.2.1=true:=k1
       rw [if_neg k1'];rfl
     ·simp only [F_congresslaw15_ClusterSame_b3]
      rw [if_neg (by simp)]
    rw [if_neg hv',inner];rfl
   ·have hv':(!(getD t i S50.dflt).2.2.2.1)=true:=by rw [show (getD t i S50.dflt).2.2.2.1=false by simpa using hv];decide
    rw [if_pos hv']
  ·simp only [F_congresslaw15_ClusterSame_b2]
   rw [if_neg (by simp)]
 rw [this];rfl
end Go.Proofs.YtjcbamenfaoffaaGreatDoor.Cl
