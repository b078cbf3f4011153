/- Laws of my own that ClusterSafe alone leans on. -/
import Derived.Test.YtjcbamenfaoffaaGreatDoorAA
set_option linter.unusedVariables false
set_option linter.unusedSimpArgs false
open List (length replicate getD drop take)
open Option.some (inj injEq)
open Int (toNat)
open Go.IntKind (wrap)
set_option maxRecDepth 100000
set_option linter.unusedVariables false
namespace Go.Proofs.YtjcbamenfaoffaaGreatDoor
open Go.RowKit
noncomputable def F_congressref15_Counts_b1 (x0:(List S50.ty)) (x1:Int) (x2:Int) (x3:S36.ty) (s1:(Int × (List Int))):Option ((Int × (List Int)) ⊕ (List Int)) :=
 if (decide (s1.1 < ((length x0:Nat):Int)))=true then (show Option Bool from if 0≤s1.1∧s1.1 < ((length x0:Nat):Int) then (if (((getD x0 (toNat s1.1) S50.dflt).1) == x1)=true then if 0≤s1.1∧s1.1 < ((length x0:Nat):Int) then (if ((((getD x0 (toNat s1.1) S50.dflt).2).1) == x2)=true then if 0≤s1.1∧s1.1 < ((length x0:Nat):Int) then (if (Sh.eqb S36 ((((getD x0 (toNat s1.1) S50.dflt).2).2).1) x3)=true then if 0≤s1.1∧s1.1 < ((length x0:Nat):Int) then (some (!(((((getD x0 (toNat s1.1) S50.dflt).2).2).2).1))) else none else some false) else none else some false) else none else some false) else none).bind (fun r2=>if (r2)=true then if 0≤s1.1∧s1.1 < ((length x0:Nat):Int) then (if 0≤(bits .and .i64 (((((((getD x0 (toNat s1.1) S50.dflt).2).2).2).2).1).1) 7)∧(bits .and .i64 (((((((getD x0 (toNat s1.1) S50.dflt).2).2).2).2).1).1) 7) < ((8:Nat):Int) then (if 0≤(bits .and .i64 (((((((getD x0 (toNat s1.1) S50.dflt).2).2).2).2).1).1) 7)∧(bits .and .i64 (((((((getD x0 (toNat s1.1) S50.dflt).2).2).2).2).1).1) 7) < ((8:Nat):Int) then (some (Sum.inl (wrap .i64 (s1.1 + 1),List.set s1.2 (toNat (bits .and .i64 (((((((getD x0 (toNat s1.1) S50.dflt).2).2).2).2).1).1) 7)) (wrap .u32 ((getD s1.2 (toNat (bits .and .i64 (((((((getD x0 (toNat s1.1) S50.dflt).2).2).2).2).1).1) 7)) 0) + 1))))) else none) else none) else none else some (Sum.inl (wrap .i64 (s1.1 + 1),s1.2))) else some (Sum.inr s1.2)
noncomputable def F_congressref15_Counts (x0:(List S50.ty)) (x1:Int) (x2:Int) (x3:S36.ty):Option (List Int) :=
 (loopO (F_congressref15_Counts_b1 x0 x1 x2 x3) (0,replicate 8 0)).bind (fun r1=>some r1)
theorem W_congressref15_Counts {x0:(List S50.ty)} {x1:Int} {x2:Int} {x3:S36.ty} {y:(List Int)} (hF0:F_congressref15_Counts x0 x1 x2 x3=some y):Pure Tryz.prog 12 [.v (.sl S50) x0,vi x1,.v (.int .u32) x2,.v S36 x3] (.v (.arr 8 (.int .u32)) y):=by
 unfold F_congressref15_Counts at hF0
 refine pure_of_run @Tryz.call12 @Tryz.func12 rfl rfl fun w M ho=>?_
 refine sq rfl (rg [(0,.v (.sl S50) x0),(1,vi x1),(2,.v (.int .u32) x2),(7,.ptr 5000 [] 0),(8,.ptr 5020 [] 0)] [(5000,.var 36 S36 x3),(5020,.var 52 (.arr 8 (.int .u32)) (replicate 8 0))] [] [] 5000 rfl (by kernel_rfl) c0 (sq rfl (rg [(0,.v (.sl S50) x0),(1,vi x1),(2,.v (.int .u32) x2),(7,.ptr 5000 [] 0),(8,.ptr 5020 [] 0),(9,.ptr 5041 [] 0)] [(5000,.var 36 S36 x3),(5020,.var 52 (.arr 8 (.int .u32)) (replicate 8 0)),(5041,.var 52 (.arr 8 (.int .u32)) (replicate 8 0))] [] [] 5021 rfl (by kernel_rfl) c0 (sq rfl (sq rfl (rg [(0,.v (.sl S50) x0),(1,vi x1),(2,.v (.int .u32) x2),(7,.ptr 5000 [] 0),(8,.ptr 5020 [] 0),(9,.ptr 5041 [] 0),(10,vi 0)] [(5000,.var 36 S36 x3),(5020,.var 52 (.arr 8 (.int .u32)) (replicate 8 0)),(5041,.var 52 (.arr 8 (.int .u32)) (replicate 8 0))] [] [] 5042 rfl (by kernel_rfl) c0 (bk rfl ?_)))))))
 obtain ⟨r1,hl1,hF0⟩:=obd hF0
 refine run_cutx 0 rfl (fun r1'=>r1=r1') (fun r1=>[(8,.ptr 5020 [] 0),(9,.ptr 5041 [] 0)]) (fun r1=>[(5020,.var 52 (.arr 8 (.int .u32)) (replicate 8 0)),(5041,.var 52 (.arr 8 (.int .u32)) r1)]) (fun r1' h1=>?_) (fun J1_0=>?_)
 ·subst h1
  refine sq rfl (rg [(8,.ptr 5020 [] 0)] [(5020,.var 52 (.arr 8 (.int .u32)) r1)] [] [] 5042 rfl (by kernel_rfl) c0 ?_)
  obtain rfl:=inj hF0
  exact ret_pure (q:=[.v (.arr 8 (.int .u32)) r1]) [(.arr 8 (.int .u32))] rfl rfl (by kernel_rfl)
 refine run_loop rfl (run_loopO hl1 (fun s1=>[(0,.v (.sl S50) x0),(1,vi x1),(2,.v (.int .u32) x2),(7,.ptr 5000 [] 0),(8,.ptr 5020 [] 0),(9,.ptr 5041 [] 0),(10,vi s1.1)]) (fun s1=>[(5000,.var 36 S36 x3),(5020,.var 52 (.arr 8 (.int .u32)) (replicate 8 0)),(5041,.var 52 (.arr 8 (.int .u32)) s1.2)]) rfl rfl (fun s1 o1 hF1 ih1 hr1=>?_))
 unfold F_congressref15_Counts_b1 at hF1
 refine run_again (sq rfl (sq rfl (rg [(0,.v (.sl S50) x0),(1,vi x1),(2,.v (.int .u32) x2),(7,.ptr 5000 [] 0),(8,.ptr 5020 [] 0),(9,.ptr 5041 [] 0),(10,vi s1.1),(15,vb (decide (s1.1 < ((length x0:Nat):Int))))] [(5000,.var 36 S36 x3),(5020,.var 52 (.arr 8 (.int .u32)) (replicate 8 0)),(5041,.var 52 (.arr 8 (.int .u32)) s1.2)] [] [] 5042 rfl (by kernel_rfl) c0 ?_)))
 refine run_if rfl rfl (fun h2=>?_) (fun h2=>?_)
 ·replace hF1:=ift h2 hF1
  refine sk rfl (sq rfl (bk rfl (sq rfl ?_)))
  obtain ⟨r2,hF2,hF1⟩:=obd hF1
  refine run_cut (fun r2'=>r2=r2') (fun r2=>[(0,.v (.sl S50) x0),(1,vi x1),(2,.v (.int .u32) x2),(7,.ptr 5000 [] 0),(8,.ptr 5020 [] 0),(9,.ptr 5041 [] 0),(10,vi s1.1),(51,vb r2)]) (fun r2=>[(5000,.var 36 S36 x3),(5020,.var 52 (.arr 8 (.int .u32)) (replicate 8 0)),(5041,.var 52 (.arr 8 (.int .u32)) s1.2)]) (fun r2' h3=>?_) (fun J2_0=>?_)
  ·subst h3
   refine run_if rfl rfl (fun h4=>?_) (fun h4=>?_)
   ·replace hF1:=ift h4 hF1
    obtain ⟨h5,hF1⟩:=ifg hF1
    obtain ⟨h6,hF1⟩:=ifg hF1
    obtain ⟨h7,hF1⟩:=ifg hF1
    refine rg [(0,.v (.sl S50) x0),(1,vi x1),(2,.v (.int .u32) x2),(7,.ptr 5000 [] 0),(8,.ptr 5020 [] 0),(9,.ptr 5041 [] 0),(10,vi s1.1)] [(5000,.var 36 S36 x3),(5020,.var 52 (.arr 8 (.int .u32)) (replicate 8 0)),(5041,.var 52 (.arr 8 (.int .u32)) (List.set s1.2 (toNat (bits .and .i64 (((((((getD x0 (toNat s1.1) S50.dflt).2).2).2).2).1).1) 7)) (wrap .u32 ((getD s1.2 (toNat (bits .and .i64 (((((((getD x0 (toNat s1.1) S50.dflt).2).2).2).2).1).1) 7)) 0) + 1))))] [] [] 5042 rfl (by kernel_rfl) (cc h5 (cc h6 (cc (show offP (.arr 8 (.int .u32)) [.i (toNat (bits .and .i64 (((((((getD x0 (toNat s1.1) S50.dflt).2).2).2).2).1).1) 7))]=(0 + toNat (bits .and .i64 (((((((getD x0 (toNat s1.1) S50.dflt).2).2).2).2).1).1) 7) * 1) from offJ (p:=[]) (q:=[]) rfl (by kernel_rfl) (by kernel_rfl) (by kernel_rfl)) (cc (oo h6 trivial) (cc h7 (cc (show offP (.arr 8 (.int .u32)) [.i (toNat (bits .and .i64 (((((((getD x0 (toNat s1.1) S50.dflt).2).2).2).2).1).1) 7))]=(0 + toNat (bits .and .i64 (((((((getD x0 (toNat s1.1) S50.dflt).2).2).2).2).1).1) 7) * 1) from offJ (p:=[]) (q:=[]) rfl (by kernel_rfl) (by kernel_rfl) (by kernel_rfl)) (cc (oo h7 trivial) c0))))))) (eb (rg [(0,.v (.sl S50) x0),(1,vi x1),(2,.v (.int .u32) x2),(7,.ptr 5000 [] 0),(8,.ptr 5020 [] 0),(9,.ptr 5041 [] 0),(10,vi (wrap .i64 (s1.1 + 1)))] [(5000,.var 36 S36 x3),(5020,.var 52 (.arr 8 (.int .u32)) (replicate 8 0)),(5041,.var 52 (.arr 8 (.int .u32)) (List.set s1.2 (toNat (bits .and .i64 (((((((getD x0 (toNat s1.1) S50.dflt).2).2).2).2).1).1) 7)) (wrap .u32 ((getD s1.2 (toNat (bits .and .i64 (((((((getD x0 (toNat s1.1) S50.dflt).2).2).2).2).1).1) 7)) 0) + 1))))] [] [] 5042 rfl (by kernel_rfl) c0 ?_))
    exact ih1 _ (inj hF1).symm
   ·replace hF1:=ifn h4 hF1
    refine sk rfl (eb (rg [(0,.v (.sl S50) x0),(1,vi x1),(2,.v (.int .u32) x2),(7,.ptr 5000 [] 0),(8,.ptr 5020 [] 0),(9,.ptr 5041 [] 0),(10,vi (wrap .i64 (s1.1 + 1)))] [(5000,.var 36 S36 x3),(5020,.var 52 (.arr 8 (.int .u32)) (replicate 8 0)),(5041,.var 52 (.arr 8 (.int .u32)) s1.2)] [] [] 5042 rfl (by kernel_rfl) c0 ?_))
    exact ih1 _ (inj hF1).symm
  obtain ⟨h8,hF2⟩:=ifg hF2
  rcases Bool.eq_false_or_eq_true (((getD x0 (toNat s1.1) S50.dflt).1) == x1) with h9 | h9
  ·replace hF2:=ift h9 hF2
   obtain ⟨h10,hF2⟩:=ifg hF2
   rcases Bool.eq_false_or_eq_true ((((getD x0 (toNat s1.1) S50.dflt).2).1) == x2) with h11 | h11
   ·replace hF2:=ift h11 hF2
    obtain ⟨h12,hF2⟩:=ifg hF2
    rcases Bool.eq_false_or_eq_true (Sh.eqb S36 ((((getD x0 (toNat s1.1) S50.dflt).2).2).1) x3) with h13 | h13
    ·replace hF2:=ift h13 hF2
     obtain ⟨h14,hF2⟩:=ifg hF2
     refine rG [(0,.v (.sl S50) x0),(1,vi x1),(2,.v (.int .u32) x2),(7,.ptr 5000 [] 0),(8,.ptr 5020 [] 0),(9,.ptr 5041 [] 0),(10,vi s1.1),(51,vb (!(((((getD x0 (toNat s1.1) S50.dflt).2).2).2).1)))] [(5000,.var 36 S36 x3),(5020,.var 52 (.arr 8 (.int .u32)) (replicate 8 0)),(5041,.var 52 (.arr 8 (.int .u32)) s1.2)] [] [(7,true),(16,true),(25,true)] 5042 rfl rfl (by kernel_rfl) (cc h8 (cc h9 (cc h10 (cc h11 (cc h12 (cc h13 (cc h14 c0))))))) ?_
     exact J2_0 _ (inj hF2).symm
    ·replace hF2:=ifn h13 hF2
     refine rG [(0,.v (.sl S50) x0),(1,vi x1),(2,.v (.int .u32) x2),(7,.ptr 5000 [] 0),(8,.ptr 5020 [] 0),(9,.ptr 5041 [] 0),(10,vi s1.1),(51,vb false)] [(5000,.var 36 S36 x3),(5020,.var 52 (.arr 8 (.int .u32)) (replicate 8 0)),(5041,.var 52 (.arr 8 (.int .u32)) s1.2)] [] [(7,true),(16,true),(25,false)] 5042 rfl rfl (by kernel_rfl) (cc h8 (cc h9 (cc h10 (cc h11 (cc h12 (cc h13 c0)))))) ?_
     exact J2_0 _ (inj hF2).symm
   ·replace hF2:=ifn h11 hF2
    refine rG [(0,.v (.sl S50) x0),(1,vi x1),(2,.v (.int .u32) x2),(7,.ptr 5000 [] 0),(8,.ptr 5020 [] 0),(9,.ptr 5041 [] 0),(10,vi s1.1),(51,vb false)] [(5000,.var 36 S36 x3),(5020,.var 52 (.arr 8 (.int .u32)) (replicate 8 0)),(5041,.var 52 (.arr 8 (.int .u32)) s1.2)] [] [(7,true),(16,false)] 5042 rfl rfl (by kernel_rfl) (cc h8 (cc h9 (cc h10 (cc h11 c0)))) ?_
    exact J2_0 _ (inj hF2).symm
  ·replace hF2:=ifn h9 hF2
   refine rG [(0,.v (.sl S50) x0),(1,vi x1),(2,.v (.int .u32) x2),(7,.ptr 5000 [] 0),(8,.ptr 5020 [] 0),(9,.ptr 5041 [] 0),(10,vi s1.1),(51,vb false)] [(5000,.var 36 S36 x3),(5020,.var 52 (.arr 8 (.int .u32)) (replicate 8 0)),(5041,.var 52 (.arr 8 (.int .u32)) s1.2)] [] [(7,false)] 5042 rfl rfl (by kernel_rfl) (cc h8 (cc h9 c0)) ?_
   exact J2_0 _ (inj hF2).symm
 ·replace hF1:=ifn h2 hF1
  refine run_exit rfl rfl (tm (ρ':=[(8,.ptr 5020 [] 0),(9,.ptr 5041 [] 0)]) (H':=[(5020,.var 52 (.arr 8 (.int .u32)) (replicate 8 0)),(5041,.var 52 (.arr 8 (.int .u32)) s1.2)]) (by kernel_rfl) (by kernel_rfl) rfl ?_)
  exact J1_0 _ (inrI hr1 hF1).symm
noncomputable def F_congresslaw15_members_b1 (x0:(List S50.ty)) (x1:S36.ty) (s1:Int):Option (Int ⊕ ((List Int) ⊕ Unit)) :=
 if (decide (s1 < ((length x0:Nat):Int)))=true then (show Option Bool from if 0≤s1∧s1 < ((length x0:Nat):Int) then (if (((((getD x0 (toNat s1) S50.dflt).2).2).2).1)=true then if 0≤s1∧s1 < ((length x0:Nat):Int) then (some (Sh.eqb S36 (((((((getD x0 (toNat s1) S50.dflt).2).2).2).2).2).1) x1)) else none else some false) else none).bind (fun r2=>if (r2)=true then if 0≤s1∧s1 < ((length x0:Nat):Int) then (some (Sum.inr (Sum.inl (((((((getD x0 (toNat s1) S50.dflt).2).2).2).2).2).2)))) else none else some (Sum.inl (wrap .i64 (s1 + 1)))) else some (Sum.inr (Sum.inr ()))
noncomputable def F_congresslaw15_members (x0:(List S50.ty)) (x1:S36.ty):Option (List Int) :=
 (loopO (F_congresslaw15_members_b1 x0 x1) 0).bind (Sum.elim some (fun j11=>if 0≤(bits .and .u32 x1.2.1 7)∧(bits .and .u32 x1.2.1 7) < ((8:Nat):Int) then (some (List.set (replicate 8 0) (toNat (bits .and .u32 x1.2.1 7)) x1.2.2)) else none))
theorem W_congresslaw15_members {x0:(List S50.ty)} {x1:S36.ty} {y:(List Int)} (hF0:F_congresslaw15_members x0 x1=some y):Pure Tryz.prog 13 [.v (.sl S50) x0,.v S36 x1] (.v (.arr 8 (.int .u32)) y):=by
 unfold F_congresslaw15_members at hF0
 refine pure_of_run @Tryz.call13 @Tryz.func13 rfl rfl fun w M ho=>?_
 refine sq rfl (rg [(0,.v (.sl S50) x0),(3,.ptr 5000 [] 0),(4,.ptr 5020 [] 0)] [(5000,.var 36 S36 x1),(5020,.var 46 (.arr 8 (.int .u32)) (replicate 8 0))] [] [] 5000 rfl (by kernel_rfl) c0 (sq rfl (sq rfl (rg [(0,.v (.sl S50) x0),(3,.ptr 5000 [] 0),(4,.ptr 5020 [] 0),(5,vi 0)] [(5000,.var 36 S36 x1),(5020,.var 46 (.arr 8 (.int .u32)) (replicate 8 0))] [] [] 5021 rfl (by kernel_rfl) c0 (bk rfl ?_)))))
 obtain ⟨r1,hl1,hF0⟩:=obd hF0
 refine run_cutx 0 rfl (fun j11=>r1=Sum.inr j11) (fun j11=>[(3,.ptr 5000 [] 0),(4,.ptr 5020 [] 0)]) (fun j11=>[(5000,.var 36 S36 x1),(5020,.var 46 (.arr 8 (.int .u32)) (replicate 8 0))]) (fun j11 h1=>?_) (fun J1_1=>?_)
 ·subst h1
  replace hF0:=sumR hF0
  refine sq rfl (rg [(3,.ptr 5000 [] 0),(4,.ptr 5020 [] 0),(6,.ptr 5041 [] 0)] [(5000,.var 36 S36 x1),(5020,.var 46 (.arr 8 (.int .u32)) (replicate 8 0)),(5041,.var 46 (.arr 8 (.int .u32)) (replicate 8 0))] [] [] 5021 rfl (by kernel_rfl) c0 (sq rfl ?_))
  obtain ⟨h2,hF0⟩:=ifg hF0
  refine rg [(4,.ptr 5020 [] 0),(6,.ptr 5041 [] 0)] [(5020,.var 46 (.arr 8 (.int .u32)) (replicate 8 0)),(5041,.var 46 (.arr 8 (.int .u32)) (List.set (replicate 8 0) (toNat (bits .and .u32 x1.2.1 7)) x1.2.2))] [] [] 5042 rfl (by kernel_rfl) (cc h2 (cc (show offP (.arr 8 (.int .u32)) [.i (toNat (bits .and .u32 x1.2.1 7))]=(0 + toNat (bits .and .u32 x1.2.1 7) * 1) from offJ (p:=[]) (q:=[]) rfl (by kernel_rfl) (by kernel_rfl) (by kernel_rfl)) (cc (oo h2 trivial) c0))) (sq rfl (rg [(4,.ptr 5020 [] 0)] [(5020,.var 46 (.arr 8 (.int .u32)) (List.set (replicate 8 0) (toNat (bits .and .u32 x1.2.1 7)) x1.2.2))] [] [] 5042 rfl (by kernel_rfl) c0 ?_))
  obtain rfl:=inj hF0
  exact ret_pure (q:=[.v (.arr 8 (.int .u32)) (List.set (replicate 8 0) (toNat (bits .and .u32 x1.2.1 7)) x1.2.2)]) [(.arr 8 (.int .u32))] rfl rfl (by kernel_rfl)
 refine run_loop rfl (run_loopO hl1 (fun s1=>[(0,.v (.sl S50) x0),(3,.ptr 5000 [] 0),(4,.ptr 5020 [] 0),(5,vi s1)]) (fun s1=>[(5000,.var 36 S36 x1),(5020,.var 46 (.arr 8 (.int .u32)) (replicate 8 0))]) rfl rfl (fun s1 o1 hF1 ih1 hr1=>?_))
 unfold F_congresslaw15_members_b1 at hF1
 refine run_again (sq rfl (sq rfl (rg [(0,.v (.sl S50) x0),(3,.ptr 5000 [] 0),(4,.ptr 5020 [] 0),(5,vi s1),(10,vb (decide (s1 < ((length x0:Nat):Int))))] [(5000,.var 36 S36 x1),(5020,.var 46 (.arr 8 (.int .u32)) (replicate 8 0))] [] [] 5021 rfl (by kernel_rfl) c0 ?_)))
 refine run_if rfl rfl (fun h3=>?_) (fun h3=>?_)
 ·replace hF1:=ift h3 hF1
  refine sk rfl (sq rfl (bk rfl (sq rfl ?_)))
  obtain ⟨r2,hF2,hF1⟩:=obd hF1
  refine run_cut (fun r2'=>r2=r2') (fun r2=>[(0,.v (.sl S50) x0),(3,.ptr 5000 [] 0),(4,.ptr 5020 [] 0),(5,vi s1),(28,vb r2)]) (fun r2=>[(5000,.var 36 S36 x1),(5020,.var 46 (.arr 8 (.int .u32)) (replicate 8 0))]) (fun r2' h4=>?_) (fun J2_0=>?_)
  ·subst h4
   refine run_if rfl rfl (fun h5=>?_) (fun h5=>?_)
   ·replace hF1:=ift h5 hF1
    refine sq rfl ?_
    obtain ⟨h6,hF1⟩:=ifg hF1
    refine rg [(4,.ptr 5020 [] 0)] [(5020,.var 46 (.arr 8 (.int .u32)) (((((((getD x0 (toNat s1) S50.dflt).2).2).2).2).2).2))] [] [] 5021 rfl (by kernel_rfl) (cc h6 c0) ?_
    have e1:=inrI hr1 hF1
    subst e1
    replace hF0:=sumL hF0
    obtain rfl:=inj hF0
    exact ret_pure (q:=[.v (.arr 8 (.int .u32)) (((((((getD x0 (toNat s1) S50.dflt).2).2).2).2).2).2)]) [(.arr 8 (.int .u32))] rfl rfl (by kernel_rfl)
   ·replace hF1:=ifn h5 hF1
    refine sk rfl (eb (rg [(0,.v (.sl S50) x0),(3,.ptr 5000 [] 0),(4,.ptr 5020 [] 0),(5,vi (wrap .i64 (s1 + 1)))] [(5000,.var 36 S36 x1),(5020,.var 46 (.arr 8 (.int .u32)) (replicate 8 0))] [] [] 5021 rfl (by kernel_rfl) c0 ?_))
    exact ih1 _ (inj hF1).symm
  obtain ⟨h7,hF2⟩:=ifg hF2
  rcases Bool.eq_false_or_eq_true (((((getD x0 (toNat s1) S50.dflt).2).2).2).1) with h8 | h8
  ·replace hF2:=ift h8 hF2
   obtain ⟨h9,hF2⟩:=ifg hF2
   refine rG [(0,.v (.sl S50) x0),(3,.ptr 5000 [] 0),(4,.ptr 5020 [] 0),(5,vi s1),(28,vb (Sh.eqb S36 (((((((getD x0 (toNat s1) S50.dflt).2).2).2).2).2).1) x1))] [(5000,.var 36 S36 x1),(5020,.var 46 (.arr 8 (.int .u32)) (replicate 8 0))] [] [(6,true)] 5021 rfl rfl (by kernel_rfl) (cc h7 (cc h8 (cc h9 c0))) ?_
   exact J2_0 _ (inj hF2).symm
  ·replace hF2:=ifn h8 hF2
   refine rG [(0,.v (.sl S50) x0),(3,.ptr 5000 [] 0),(4,.ptr 5020 [] 0),(5,vi s1),(28,vb false)] [(5000,.var 36 S36 x1),(5020,.var 46 (.arr 8 (.int .u32)) (replicate 8 0))] [] [(6,false)] 5021 rfl rfl (by kernel_rfl) (cc h7 (cc h8 c0)) ?_
   exact J2_0 _ (inj hF2).symm
 ·replace hF1:=ifn h3 hF1
  refine run_exit rfl rfl (tm (ρ':=[(3,.ptr 5000 [] 0),(4,.ptr 5020 [] 0)]) (H':=[(5000,.var 36 S36 x1),(5020,.var 46 (.arr 8 (.int .u32)) (replicate 8 0))]) (by kernel_rfl) (by kernel_rfl) rfl ?_)
  exact J1_1 _ (inrI hr1 hF1).symm
noncomputable def F_congressref07_List_b1 (x0:(List Int)) (s1:(Int × (List Int))):Option ((Int × (List Int)) ⊕ (List Int)) :=
 if (decide (s1.1 < 8))=true then if 0≤s1.1∧s1.1 < ((8:Nat):Int) then (if (decide ((getD x0 (toNat s1.1) 0) > 0))=true then if apOk (length s1.2 + 1) 8 then (some (Sum.inl (wrap .i64 (s1.1 + 1),s1.2++[s1.1]))) else none else some (Sum.inl (wrap .i64 (s1.1 + 1),s1.2))) else none else some (Sum.inr s1.2)
noncomputable def F_congressref07_List (x0:(List Int)):Option (List Int) :=
 (loopO (F_congressref07_List_b1 x0) (0,[])).bind (fun r1=>some r1)
theorem W_congressref07_List {x0:(List Int)} {y:(List Int)} (hF0:F_congressref07_List x0=some y):Pure Tryz.prog 28 [.v (.arr 8 (.int .u32)) x0] (.v (.sl (.int .i64)) y):=by
 unfold F_congressref07_List at hF0
 refine pure_of_run @Tryz.call28 @Tryz.func28 rfl rfl fun w M ho=>?_
 refine sq rfl (rg [(1,.ptr 5000 [] 0)] [(5000,.var 46 (.arr 8 (.int .u32)) x0)] [] [] 5000 rfl (by kernel_rfl) c0 (sq rfl (rg [(1,.ptr 5000 [] 0),(3,.row 5001)] [(5000,.var 46 (.arr 8 (.int .u32)) x0),(5001,.row 3 (.int .i64) [])] [] [] 5001 rfl (by kernel_rfl) c0 (sq rfl (sq rfl (rg [(1,.ptr 5000 [] 0),(3,.row 5001),(4,vi 0)] [(5000,.var 46 (.arr 8 (.int .u32)) x0),(5001,.row 3 (.int .i64) [])] [] [] 5002 rfl (by kernel_rfl) c0 (bk rfl (run_ren (ρ':=[(1,.ptr 5000 [] 0),(3,.row 1103),(4,vi 0)]) (H':=[(1103,.row 3 (.int .i64) []),(5000,.var 46 (.arr 8 (.int .u32)) x0)]) 5001 1103 rfl (by kernel_rfl) rfl (by kernel_rfl) rfl ?_))))))))
 obtain ⟨r1,hl1,hF0⟩:=obd hF0
 refine run_cutx 0 rfl (fun r1'=>r1=r1') (fun r1=>[(3,.row 1103)]) (fun r1=>[(1103,.row 3 (.int .i64) r1)]) (fun r1' h1=>?_) (fun J1_0=>?_)
 ·subst h1
  refine sq rfl (rg [(2,.row 1103)] [(1103,.row 3 (.int .i64) r1)] [] [] 5000 rfl (by kernel_rfl) c0 ?_)
  obtain rfl:=inj hF0
  refine run_frz (ρ':=[(2,.v (.sl (.int .i64)) r1)]) (H':=[]) 1103 rfl rfl rfl (by kernel_rfl) (by kernel_rfl) ?_
  exact ret_pure (q:=[.v (.sl (.int .i64)) r1]) [(.sl (.int .i64))] rfl rfl (by kernel_rfl)
 refine run_loop rfl (run_loopO hl1 (fun s1=>[(1,.ptr 5000 [] 0),(3,.row 1103),(4,vi s1.1)]) (fun s1=>[(1103,.row 3 (.int .i64) s1.2),(5000,.var 46 (.arr 8 (.int .u32)) x0)]) rfl rfl (fun s1 o1 hF1 ih1 hr1=>?_))
 unfold F_congressref07_List_b1 at hF1
 refine run_again (sq rfl (sq rfl (rg [(1,.ptr 5000 [] 0),(3,.row 1103),(4,vi s1.1),(7,vb (decide (s1.1 < 8)))] [(1103,.row 3 (.int .i64) s1.2),(5000,.var 46 (.arr 8 (.int .u32)) x0)] [] [] 5001 rfl (by kernel_rfl) c0 ?_)))
 refine run_if rfl rfl (fun h2=>?_) (fun h2=>?_)
 ·replace hF1:=ift h2 hF1
  refine sk rfl (sq rfl (bk rfl (sq rfl ?_)))
  obtain ⟨h3,hF1⟩:=ifg hF1
  refine rg [(1,.ptr 5000 [] 0),(3,.row 1103),(4,vi s1.1),(13,vb (decide ((getD x0 (toNat s1.1) 0) > 0)))] [(1103,.row 3 (.int .i64) s1.2),(5000,.var 46 (.arr 8 (.int .u32)) x0)] [] [] 5001 rfl (by kernel_rfl) (cc h3 (cc (show offP (.arr 8 (.int .u32)) [.i (toNat s1.1)]=(0 + toNat s1.1 * 1) from offJ (p:=[]) (q:=[]) rfl (by kernel_rfl) (by kernel_rfl) (by kernel_rfl)) (cc (oo h3 trivial) c0))) ?_
  refine run_if rfl rfl (fun h4=>?_) (fun h4=>?_)
  ·replace hF1:=ift h4 hF1
   obtain ⟨h5,hF1⟩:=ifg hF1
   refine rg [(1,.ptr 5000 [] 0),(3,.row 5061),(4,vi s1.1)] [(5000,.var 46 (.arr 8 (.int .u32)) x0),(5061,.row 3 (.int .i64) (s1.2++[s1.1]))] [] [] 5001 rfl (by kernel_rfl) (cc h5.1 (cc h5.2 c0)) (eb (rg [(1,.ptr 5000 [] 0),(3,.row 5061),(4,vi (wrap .i64 (s1.1 + 1)))] [(5000,.var 46 (.arr 8 (.int .u32)) x0),(5061,.row 3 (.int .i64) (s1.2++[s1.1]))] [] [] 5062 rfl (by kernel_rfl) c0 (run_ren (ρ':=[(1,.ptr 5000 [] 0),(3,.row 1103),(4,vi (wrap .i64 (s1.1 + 1)))]) (H':=[(1103,.row 3 (.int .i64) (s1.2++[s1.1])),(5000,.var 46 (.arr 8 (.int .u32)) x0)]) 5061 1103 rfl (by kernel_rfl) rfl (by kernel_rfl) rfl ?_)))
   exact ih1 _ (inj hF1).symm
  ·replace hF1:=ifn h4 hF1
   refine sk rfl (eb (rg [(1,.ptr 5000 [] 0),(3,.row 1103),(4,vi (wrap .i64 (s1.1 + 1)))] [(1103,.row 3 (.int .i64) s1.2),(5000,.var 46 (.arr 8 (.int .u32)) x0)] [] [] 5001 rfl (by kernel_rfl) c0 ?_))
   exact ih1 _ (inj hF1).symm
 ·replace hF1:=ifn h2 hF1
  refine run_exit rfl rfl (tm (ρ':=[(3,.row 1103)]) (H':=[(1103,.row 3 (.int .i64) s1.2)]) (by kernel_rfl) (by kernel_rfl) rfl ?_)
  exact J1_0 _ (inrI hr1 hF1).symm
noncomputable def F_congressref09_Least_b1 (t1:(List Int)) (x0:(List Int)) (s1:(Int × Int)):Option ((Int × Int) ⊕ Int) :=
 if (decide (s1.2 < ((length t1:Nat):Int)))=true then if 0≤s1.2∧s1.2 < ((length t1:Nat):Int) then (if 0≤(getD t1 (toNat s1.2) 0)∧(getD t1 (toNat s1.2) 0) < ((8:Nat):Int) then (if (decide ((getD x0 (toNat (getD t1 (toNat s1.2) 0)) 0) < s1.1))=true then if 0≤s1.2∧s1.2 < ((length t1:Nat):Int) then (if 0≤(getD t1 (toNat s1.2) 0)∧(getD t1 (toNat s1.2) 0) < ((8:Nat):Int) then (some (Sum.inl (getD x0 (toNat (getD t1 (toNat s1.2) 0)) 0,wrap .i64 (s1.2 + 1)))) else none) else none else some (Sum.inl (s1.1,wrap .i64 (s1.2 + 1)))) else none) else none else some (Sum.inr s1.1)
noncomputable def F_congressref09_Least (x0:(List Int)) (x1:(List Int)):Option (Int × Bool) :=
 (F_congressref07_List x1).bind fun t1=>(if (((length t1:Nat):Int) == 0)=true then some (0,false) else if 0≤(0:Int)∧(0:Int) < ((length t1:Nat):Int) then (if 0≤(getD t1 (toNat 0) 0)∧(getD t1 (toNat 0) 0) < ((8:Nat):Int) then (loopO (F_congressref09_Least_b1 t1 x0) (getD x0 (toNat (getD t1 (toNat 0) 0)) 0,1)).bind (fun r1=>some (r1,true)) else none) else none)
theorem W_congressref09_Least {x0:(List Int)} {x1:(List Int)} {y:(Int × Bool)} (hF0:F_congressref09_Least x0 x1=some y):Pure Tryz.prog 14 [.v (.arr 8 (.int .u32)) x0,.v (.arr 8 (.int .u32)) x1] (.tup [.v (.int .u32) y.1,vb y.2]):=by
 unfold F_congressref09_Least at hF0
 refine pure_of_run @Tryz.call14 @Tryz.func14 rfl rfl fun w M ho=>?_
 refine sq rfl (rg [(2,.ptr 5000 [] 0),(3,.ptr 5020 [] 0)] [(5000,.var 52 (.arr 8 (.int .u32)) x0),(5020,.var 46 (.arr 8 (.int .u32)) x1)] [] [] 5000 rfl (by kernel_rfl) c0 (sq rfl ?_))
 obtain ⟨t1,h1,hF0⟩:=obd hF0
 refine rg [(2,.ptr 5000 [] 0),(6,.v (.sl (.int .i64)) t1)] [(5000,.var 52 (.arr 8 (.int .u32)) x0)] [(1,⟨[.v (.arr 8 (.int .u32))],.v (.sl (.int .i64)) t1,none⟩)] [] 5021 rfl (by kernel_rfl) (cc (W_congressref07_List h1) c0) (sq rfl (sq rfl (rg [(2,.ptr 5000 [] 0),(6,.v (.sl (.int .i64)) t1),(13,vb (((length t1:Nat):Int) == 0))] [(5000,.var 52 (.arr 8 (.int .u32)) x0)] [] [] 5001 rfl (by kernel_rfl) c0 ?_)))
 refine run_if rfl rfl (fun h2=>?_) (fun h2=>?_)
 ·replace hF0:=ift h2 hF0
  refine sq rfl (rg [(4,.v (.int .u32) 0),(5,vb false)] [] [] [] 5001 rfl (by kernel_rfl) c0 ?_)
  obtain rfl:=inj hF0
  exact ret_pure (q:=[.v (.int .u32) 0,vb false]) [(.int .u32),.bool] rfl rfl (by kernel_rfl)
 ·replace hF0:=ifn h2 hF0
  refine sk rfl (sq rfl ?_)
  obtain ⟨h3,hF0⟩:=ifg hF0
  obtain ⟨h4,hF0⟩:=ifg hF0
  refine rg [(2,.ptr 5000 [] 0),(6,.v (.sl (.int .i64)) t1),(7,.v (.int .u32) (getD x0 (toNat (getD t1 (toNat 0) 0)) 0))] [(5000,.var 52 (.arr 8 (.int .u32)) x0)] [] [] 5001 rfl (by kernel_rfl) (cc h3 (cc h4 (cc (show offP (.arr 8 (.int .u32)) [.i (toNat (getD t1 (toNat 0) 0))]=(0 + toNat (getD t1 (toNat 0) 0) * 1) from offJ (p:=[]) (q:=[]) rfl (by kernel_rfl) (by kernel_rfl) (by kernel_rfl)) (cc (oo h4 trivial) c0)))) (sq rfl (sq rfl (rg [(2,.ptr 5000 [] 0),(6,.v (.sl (.int .i64)) t1),(7,.v (.int .u32) (getD x0 (toNat (getD t1 (toNat 0) 0)) 0)),(8,vi 1)] [(5000,.var 52 (.arr 8 (.int .u32)) x0)] [] [] 5001 rfl (by kernel_rfl) c0 (bk rfl ?_))))
  obtain ⟨r1,hl1,hF0⟩:=obd hF0
  refine run_cutx 0 rfl (fun r1'=>r1=r1') (fun r1=>[(7,.v (.int .u32) r1)]) (fun r1=>[]) (fun r1' h5=>?_) (fun J1_0=>?_)
  ·subst h5
   refine sq rfl (rg [(4,.v (.int .u32) r1),(5,vb true)] [] [] [] 5000 rfl (by kernel_rfl) c0 ?_)
   obtain rfl:=inj hF0
   exact ret_pure (q:=[.v (.int .u32) r1,vb true]) [(.int .u32),.bool] rfl rfl (by kernel_rfl)
  refine run_loop rfl (run_loopO hl1 (fun s1=>[(2,.ptr 5000 [] 0),(6,.v (.sl (.int .i64)) t1),(7,.v (.int .u32) s1.1),(8,vi s1.2)]) (fun s1=>[(5000,.var 52 (.arr 8 (.int .u32)) x0)]) rfl rfl (fun s1 o1 hF1 ih1 hr1=>?_))
  unfold F_congressref09_Least_b1 at hF1
  refine run_again (sq rfl (sq rfl (rg [(2,.ptr 5000 [] 0),(6,.v (.sl (.int .i64)) t1),(7,.v (.int .u32) s1.1),(8,vi s1.2),(22,vb (decide (s1.2 < ((length t1:Nat):Int))))] [(5000,.var 52 (.arr 8 (.int .u32)) x0)] [] [] 5001 rfl (by kernel_rfl) c0 ?_)))
  refine run_if rfl rfl (fun h6=>?_) (fun h6=>?_)
  ·replace hF1:=ift h6 hF1
   refine sk rfl (sq rfl (bk rfl (sq rfl ?_)))
   obtain ⟨h7,hF1⟩:=ifg hF1
   obtain ⟨h8,hF1⟩:=ifg hF1
   refine rg [(2,.ptr 5000 [] 0),(6,.v (.sl (.int .i64)) t1),(7,.v (.int .u32) s1.1),(8,vi s1.2),(32,vb (decide ((getD x0 (toNat (getD t1 (toNat s1.2) 0)) 0) < s1.1)))] [(5000,.var 52 (.arr 8 (.int .u32)) x0)] [] [] 5001 rfl (by kernel_rfl) (cc h7 (cc h8 (cc (show offP (.arr 8 (.int .u32)) [.i (toNat (getD t1 (toNat s1.2) 0))]=(0 + toNat (getD t1 (toNat s1.2) 0) * 1) from offJ (p:=[]) (q:=[]) rfl (by kernel_rfl) (by kernel_rfl) (by kernel_rfl)) (cc (oo h8 trivial) c0)))) ?_
   refine run_if rfl rfl (fun h9=>?_) (fun h9=>?_)
   ·replace hF1:=ift h9 hF1
    obtain ⟨h10,hF1⟩:=ifg hF1
    obtain ⟨h11,hF1⟩:=ifg hF1
    refine rg [(2,.ptr 5000 [] 0),(6,.v (.sl (.int .i64)) t1),(7,.v (.int .u32) (getD x0 (toNat (getD t1 (toNat s1.2) 0)) 0)),(8,vi s1.2)] [(5000,.var 52 (.arr 8 (.int .u32)) x0)] [] [] 5001 rfl (by kernel_rfl) (cc h10 (cc h11 (cc (show offP (.arr 8 (.int .u32)) [.i (toNat (getD t1 (toNat s1.2) 0))]=(0 + toNat (getD t1 (toNat s1.2) 0) * 1) from offJ (p:=[]) (q:=[]) rfl (by kernel_rfl) (by kernel_rfl) (by kernel_rfl)) (cc (oo h11 trivial) c0)))) (eb (rg [(2,.ptr 5000 [] 0),(6,.v (.sl (.int .i64)) t1),(7,.v (.int .u32) (getD x0 (toNat (getD t1 (toNat s1.2) 0)) 0)),(8,vi (wrap .i64 (s1.2 + 1)))] [(5000,.var 52 (.arr 8 (.int .u32)) x0)] [] [] 5001 rfl (by kernel_rfl) c0 ?_))
    exact ih1 _ (inj hF1).symm
   ·replace hF1:=ifn h9 hF1
    refine sk rfl (eb (rg [(2,.ptr 5000 [] 0),(6,.v (.sl (.int .i64)) t1),(7,.v (.int .u32) s1.1),(8,vi (wrap .i64 (s1.2 + 1)))] [(5000,.var 52 (.arr 8 (.int .u32)) x0)] [] [] 5001 rfl (by kernel_rfl) c0 ?_))
    exact ih1 _ (inj hF1).symm
  ·replace hF1:=ifn h6 hF1
   refine run_exit rfl rfl (tm (ρ':=[(7,.v (.int .u32) s1.1)]) (H':=[]) (by kernel_rfl) (by kernel_rfl) rfl ?_)
   exact J1_0 _ (inrI hr1 hF1).symm
noncomputable def F_congressref09_Full_b1 (t1:(List Int)) (x0:(List Int)) (x2:Int) (s1:Int):Option (Int ⊕ (Bool ⊕ Unit)) :=
 if (decide (s1 < ((length t1:Nat):Int)))=true then if 0≤s1∧s1 < ((length t1:Nat):Int) then (if 0≤(getD t1 (toNat s1) 0)∧(getD t1 (toNat s1) 0) < ((8:Nat):Int) then (if (decide ((wrap .u64 (getD x0 (toNat (getD t1 (toNat s1) 0)) 0)) < x2))=true then some (Sum.inr (Sum.inl false)) else some (Sum.inl (wrap .i64 (s1 + 1)))) else none) else none else some (Sum.inr (Sum.inr ()))
noncomputable def F_congressref09_Full (x0:(List Int)) (x1:(List Int)) (x2:Int):Option Bool :=
 (F_congressref07_List x1).bind fun t1=>((loopO (F_congressref09_Full_b1 t1 x0 x2) 0).bind (Sum.elim some (fun j11=>some true)))
theorem W_congressref09_Full {x0:(List Int)} {x1:(List Int)} {x2:Int} {y:Bool} (hF0:F_congressref09_Full x0 x1 x2=some y):Pure Tryz.prog 16 [.v (.arr 8 (.int .u32)) x0,.v (.arr 8 (.int .u32)) x1,vu x2] (vb y):=by
 unfold F_congressref09_Full at hF0
 refine pure_of_run @Tryz.call16 @Tryz.func16 rfl rfl fun w M ho=>?_
 refine sq rfl (rg [(2,vu x2),(3,.ptr 5000 [] 0),(4,.ptr 5020 [] 0)] [(5000,.var 52 (.arr 8 (.int .u32)) x0),(5020,.var 46 (.arr 8 (.int .u32)) x1)] [] [] 5000 rfl (by kernel_rfl) c0 (sq rfl ?_))
 obtain ⟨t1,h1,hF0⟩:=obd hF0
 refine rg [(2,vu x2),(3,.ptr 5000 [] 0),(7,.v (.sl (.int .i64)) t1)] [(5000,.var 52 (.arr 8 (.int .u32)) x0)] [(1,⟨[.v (.arr 8 (.int .u32))],.v (.sl (.int .i64)) t1,none⟩)] [] 5021 rfl (by kernel_rfl) (cc (W_congressref07_List h1) c0) (sq rfl (sq rfl (rg [(2,vu x2),(3,.ptr 5000 [] 0),(7,.v (.sl (.int .i64)) t1),(8,vi 0)] [(5000,.var 52 (.arr 8 (.int .u32)) x0)] [] [] 5001 rfl (by kernel_rfl) c0 (bk rfl ?_))))
 obtain ⟨r1,hl1,hF0⟩:=obd hF0
 refine run_cutx 0 rfl (fun j11=>r1=Sum.inr j11) (fun j11=>[]) (fun j11=>[]) (fun j11 h2=>?_) (fun J1_1=>?_)
 ·subst h2
  replace hF0:=sumR hF0
  refine sq rfl (rg [(6,vb true)] [] [] [] 5000 rfl (by kernel_rfl) c0 ?_)
  obtain rfl:=inj hF0
  exact ret_pure (q:=[vb true]) [.bool] rfl rfl (by kernel_rfl)
 refine run_loop rfl (run_loopO hl1 (fun s1=>[(2,vu x2),(3,.ptr 5000 [] 0),(7,.v (.sl (.int .i64)) t1),(8,vi s1)]) (fun s1=>[(5000,.var 52 (.arr 8 (.int .u32)) x0)]) rfl rfl (fun s1 o1 hF1 ih1 hr1=>?_))
 unfold F_congressref09_Full_b1 at hF1
 refine run_again (sq rfl (sq rfl (rg [(2,vu x2),(3,.ptr 5000 [] 0),(7,.v (.sl (.int .i64)) t1),(8,vi s1),(14,vb (decide (s1 < ((length t1:Nat):Int))))] [(5000,.var 52 (.arr 8 (.int .u32)) x0)] [] [] 5001 rfl (by kernel_rfl) c0 ?_)))
 refine run_if rfl rfl (fun h3=>?_) (fun h3=>?_)
 ·replace hF1:=ift h3 hF1
  refine sk rfl (sq rfl (bk rfl (sq rfl ?_)))
  obtain ⟨h4,hF1⟩:=ifg hF1
  obtain ⟨h5,hF1⟩:=ifg hF1
  refine rg [(2,vu x2),(3,.ptr 5000 [] 0),(7,.v (.sl (.int .i64)) t1),(8,vi s1),(25,vb (decide ((wrap .u64 (getD x0 (toNat (getD t1 (toNat s1) 0)) 0)) < x2)))] [(5000,.var 52 (.arr 8 (.int .u32)) x0)] [] [] 5001 rfl (by kernel_rfl) (cc h4 (cc h5 (cc (show offP (.arr 8 (.int .u32)) [.i (toNat (getD t1 (toNat s1) 0))]=(0 + toNat (getD t1 (toNat s1) 0) * 1) from offJ (p:=[]) (q:=[]) rfl (by kernel_rfl) (by kernel_rfl) (by kernel_rfl)) (cc (oo h5 trivial) c0)))) ?_
  refine run_if rfl rfl (fun h6=>?_) (fun h6=>?_)
  ·replace hF1:=ift h6 hF1
   refine sq rfl (rg [(6,vb false)] [] [] [] 5001 rfl (by kernel_rfl) c0 ?_)
   have e1:=inrI hr1 hF1
   subst e1
   replace hF0:=sumL hF0
   obtain rfl:=inj hF0
   exact ret_pure (q:=[vb false]) [.bool] rfl rfl (by kernel_rfl)
  ·replace hF1:=ifn h6 hF1
   refine sk rfl (eb (rg [(2,vu x2),(3,.ptr 5000 [] 0),(7,.v (.sl (.int .i64)) t1),(8,vi (wrap .i64 (s1 + 1)))] [(5000,.var 52 (.arr 8 (.int .u32)) x0)] [] [] 5001 rfl (by kernel_rfl) c0 ?_))
   exact ih1 _ (inj hF1).symm
 ·replace hF1:=ifn h3 hF1
  refine run_exit rfl rfl (tm (ρ':=[]) (H':=[]) (by kernel_rfl) (by kernel_rfl) rfl ?_)
  exact J1_1 _ (inrI hr1 hF1).symm
noncomputable def F_congresslaw15_next_b1 (x0:(List S50.ty)) (x1:Int) (x2:Int) (x3:S36.ty) (s1:Int):Option (Int ⊕ ((S36.ty × Bool) ⊕ Unit)) :=
 if (decide (s1 < ((length x0:Nat):Int)))=true then if 0≤s1∧s1 < ((length x0:Nat):Int) then (show Option Bool from if (((getD x0 (toNat s1) S50.dflt).1) == x1)=true then if ((((getD x0 (toNat s1) S50.dflt).2).1) == x2)=true then if (Sh.eqb S36 ((((getD x0 (toNat s1) S50.dflt).2).2).1) x3)=true then some (((((getD x0 (toNat s1) S50.dflt).2).2).2).1) else some false else some false else some false).bind (fun r2=>if (r2)=true then some (Sum.inr (Sum.inl (((((((getD x0 (toNat s1) S50.dflt).2).2).2).2).2).1,true))) else some (Sum.inl (wrap .i64 (s1 + 1)))) else none else some (Sum.inr (Sum.inr ()))
noncomputable def F_congresslaw15_next (x0:(List S50.ty)) (x1:Int) (x2:Int) (x3:S36.ty):Option (S36.ty × Bool) :=
 (loopO (F_congresslaw15_next_b1 x0 x1 x2 x3) 0).bind (Sum.elim some (fun j11=>some ((0,(0,0)),false)))
theorem W_congresslaw15_next {x0:(List S50.ty)} {x1:Int} {x2:Int} {x3:S36.ty} {y:(S36.ty × Bool)} (hF0:F_congresslaw15_next x0 x1 x2 x3=some y):Pure Tryz.prog 15 [.v (.sl S50) x0,vi x1,.v (.int .u32) x2,.v S36 x3] (.tup [.v S36 y.1,vb y.2]):=by
 unfold F_congresslaw15_next at hF0
 refine pure_of_run @Tryz.call15 @Tryz.func15 rfl rfl fun w M ho=>?_
 refine sq rfl (rg [(0,.v (.sl S50) x0),(1,vi x1),(2,.v (.int .u32) x2),(7,.ptr 5000 [] 0),(8,.ptr 5020 [] 0)] [(5000,.var 36 S36 x3),(5020,.var 36 S36 (0,(0,0)))] [] [] 5000 rfl (by kernel_rfl) c0 (sq rfl (sq rfl (rg [(0,.v (.sl S50) x0),(1,vi x1),(2,.v (.int .u32) x2),(7,.ptr 5000 [] 0),(8,.ptr 5020 [] 0),(10,vi 0)] [(5000,.var 36 S36 x3),(5020,.var 36 S36 (0,(0,0)))] [] [] 5021 rfl (by kernel_rfl) c0 (bk rfl ?_)))))
 obtain ⟨r1,hl1,hF0⟩:=obd hF0
 refine run_cutx 0 rfl (fun j11=>r1=Sum.inr j11) (fun j11=>[(8,.ptr 5020 [] 0)]) (fun j11=>[(5020,.var 36 S36 (0,(0,0)))]) (fun j11 h1=>?_) (fun J1_1=>?_)
 ·subst h1
  replace hF0:=sumR hF0
  refine sq rfl (rg [(8,.ptr 5020 [] 0),(9,vb false)] [(5020,.var 36 S36 (0,(0,0)))] [] [] 5021 rfl (by kernel_rfl) c0 ?_)
  obtain rfl:=inj hF0
  exact ret_pure (q:=[.v S36 (0,(0,0)),vb false]) [S36,.bool] rfl rfl (by kernel_rfl)
 refine run_loop rfl (run_loopO hl1 (fun s1=>[(0,.v (.sl S50) x0),(1,vi x1),(2,.v (.int .u32) x2),(7,.ptr 5000 [] 0),(8,.ptr 5020 [] 0),(10,vi s1)]) (fun s1=>[(5000,.var 36 S36 x3),(5020,.var 36 S36 (0,(0,0)))]) rfl rfl (fun s1 o1 hF1 ih1 hr1=>?_))
 unfold F_congresslaw15_next_b1 at hF1
 refine run_again (sq rfl (sq rfl (rg [(0,.v (.sl S50) x0),(1,vi x1),(2,.v (.int .u32) x2),(7,.ptr 5000 [] 0),(8,.ptr 5020 [] 0),(10,vi s1),(15,vb (decide (s1 < ((length x0:Nat):Int))))] [(5000,.var 36 S36 x3),(5020,.var 36 S36 (0,(0,0)))] [] [] 5021 rfl (by kernel_rfl) c0 ?_)))
 refine run_if rfl rfl (fun h2=>?_) (fun h2=>?_)
 ·replace hF1:=ift h2 hF1
  refine sk rfl (sq rfl (bk rfl (sq rfl ?_)))
  obtain ⟨h3,hF1⟩:=ifg hF1
  refine rg [(0,.v (.sl S50) x0),(1,vi x1),(2,.v (.int .u32) x2),(7,.ptr 5000 [] 0),(8,.ptr 5020 [] 0),(10,vi s1),(11,.ptr 5101 [] 0)] [(5000,.var 36 S36 x3),(5020,.var 36 S36 (0,(0,0))),(5101,.var 50 S50 (getD x0 (toNat s1) S50.dflt))] [] [] 5021 rfl (by kernel_rfl) (cc h3 c0) (sq rfl ?_)
  obtain ⟨r2,hF2,hF1⟩:=obd hF1
  refine run_cut (fun r2'=>r2=r2') (fun r2=>[(0,.v (.sl S50) x0),(1,vi x1),(2,.v (.int .u32) x2),(7,.ptr 5000 [] 0),(8,.ptr 5020 [] 0),(10,vi s1),(11,.ptr 5101 [] 0),(42,vb r2)]) (fun r2=>[(5000,.var 36 S36 x3),(5020,.var 36 S36 (0,(0,0))),(5101,.var 50 S50 (getD x0 (toNat s1) S50.dflt))]) (fun r2' h4=>?_) (fun J2_0=>?_)
  ·subst h4
   refine run_if rfl rfl (fun h5=>?_) (fun h5=>?_)
   ·replace hF1:=ift h5 hF1
    refine sq rfl (rg [(8,.ptr 5020 [] 0),(9,vb true)] [(5020,.var 36 S36 (((((((getD x0 (toNat s1) S50.dflt).2).2).2).2).2).1))] [] [] 5102 rfl (by kernel_rfl) c0 ?_)
    have e1:=inrI hr1 hF1
    subst e1
    replace hF0:=sumL hF0
    obtain rfl:=inj hF0
    exact ret_pure (q:=[.v S36 (((((((getD x0 (toNat s1) S50.dflt).2).2).2).2).2).1),vb true]) [S36,.bool] rfl rfl (by kernel_rfl)
   ·replace hF1:=ifn h5 hF1
    refine sk rfl (eb (rg [(0,.v (.sl S50) x0),(1,vi x1),(2,.v (.int .u32) x2),(7,.ptr 5000 [] 0),(8,.ptr 5020 [] 0),(10,vi (wrap .i64 (s1 + 1)))] [(5000,.var 36 S36 x3),(5020,.var 36 S36 (0,(0,0)))] [] [] 5102 rfl (by kernel_rfl) c0 ?_))
    exact ih1 _ (inj hF1).symm
  rcases Bool.eq_false_or_eq_true (((getD x0 (toNat s1) S50.dflt).1) == x1) with h6 | h6
  ·replace hF2:=ift h6 hF2
   rcases Bool.eq_false_or_eq_true ((((getD x0 (toNat s1) S50.dflt).2).1) == x2) with h7 | h7
   ·replace hF2:=ift h7 hF2
    rcases Bool.eq_false_or_eq_true (Sh.eqb S36 ((((getD x0 (toNat s1) S50.dflt).2).2).1) x3) with h8 | h8
    ·replace hF2:=ift h8 hF2
     refine rg [(0,.v (.sl S50) x0),(1,vi x1),(2,.v (.int .u32) x2),(7,.ptr 5000 [] 0),(8,.ptr 5020 [] 0),(10,vi s1),(11,.ptr 5101 [] 0),(42,vb (((((getD x0 (toNat s1) S50.dflt).2).2).2).1))] [(5000,.var 36 S36 x3),(5020,.var 36 S36 (0,(0,0))),(5101,.var 50 S50 (getD x0 (toNat s1) S50.dflt))] [] [(4,true),(10,true),(16,true)] 5102 rfl (by kernel_rfl) (cc h6 (cc h7 (cc h8 c0))) ?_
     exact J2_0 _ (inj hF2).symm
    ·replace hF2:=ifn h8 hF2
     refine rg [(0,.v (.sl S50) x0),(1,vi x1),(2,.v (.int .u32) x2),(7,.ptr 5000 [] 0),(8,.ptr 5020 [] 0),(10,vi s1),(11,.ptr 5101 [] 0),(42,vb false)] [(5000,.var 36 S36 x3),(5020,.var 36 S36 (0,(0,0))),(5101,.var 50 S50 (getD x0 (toNat s1) S50.dflt))] [] [(4,true),(10,true),(16,false)] 5102 rfl (by kernel_rfl) (cc h6 (cc h7 (cc h8 c0))) ?_
     exact J2_0 _ (inj hF2).symm
   ·replace hF2:=ifn h7 hF2
    refine rg [(0,.v (.sl S50) x0),(1,vi x1),(2,.v (.int .u32) x2),(7,.ptr 5000 [] 0),(8,.ptr 5020 [] 0),(10,vi s1),(11,.ptr 5101 [] 0),(42,vb false)] [(5000,.var 36 S36 x3),(5020,.var 36 S36 (0,(0,0))),(5101,.var 50 S50 (getD x0 (toNat s1) S50.dflt))] [] [(4,true),(10,false)] 5102 rfl (by kernel_rfl) (cc h6 (cc h7 c0)) ?_
    exact J2_0 _ (inj hF2).symm
  ·replace hF2:=ifn h6 hF2
   refine rg [(0,.v (.sl S50) x0),(1,vi x1),(2,.v (.int .u32) x2),(7,.ptr 5000 [] 0),(8,.ptr 5020 [] 0),(10,vi s1),(11,.ptr 5101 [] 0),(42,vb false)] [(5000,.var 36 S36 x3),(5020,.var 36 S36 (0,(0,0))),(5101,.var 50 S50 (getD x0 (toNat s1) S50.dflt))] [] [(4,false)] 5102 rfl (by kernel_rfl) (cc h6 c0) ?_
   exact J2_0 _ (inj hF2).symm
 ·replace hF1:=ifn h2 hF1
  refine run_exit rfl rfl (tm (ρ':=[(8,.ptr 5020 [] 0)]) (H':=[(5020,.var 36 S36 (0,(0,0)))]) (by kernel_rfl) (by kernel_rfl) rfl ?_)
  exact J1_1 _ (inrI hr1 hF1).symm
noncomputable def F_congresslaw15_ClusterSafe_b3 (s2:Int) (t1:(S29.ty × (List S50.ty) × Bool)) (t3:(List Int)) (t5:(Int × Bool)) (s3:Int):Option (Int ⊕ (Bool ⊕ Unit)) :=
 if (decide (s3 < 8))=true then if 0≤s3∧s3 < ((8:Nat):Int) then (F_congresslaw15_next t1.2.1 s3 (getD t3 (toNat s3) 0) ((((getD t1.2.1 (toNat s2) S50.dflt).2).2).1)).bind fun t6=>((show Option Bool from if 0≤s3∧s3 < ((8:Nat):Int) then (if ((getD t3 (toNat s3) 0) == 0)=true then some true else if (!t6.2)=true then some true else some (decide (t5.1 < 2))) else none).bind (fun r4=>if (r4)=true then some (Sum.inl (wrap .i64 (s3 + 1))) else if 0≤s3∧s3 < ((8:Nat):Int) then (F_congressref15_Counts t1.2.1 s3 (getD t3 (toNat s3) 0) ((((getD t1.2.1 (toNat s2) S50.dflt).2).2).1)).bind fun t7=>((F_congressref09_Full t7 t3 (wrap .u64 (wrap .u32 (t5.1 - 1)))).bind fun t8=>(if (!t8)=true then some (Sum.inr (Sum.inl false)) else some (Sum.inl (wrap .i64 (s3 + 1))))) else none)) else none else some (Sum.inr (Sum.inr ()))
noncomputable def F_congresslaw15_ClusterSafe_b2 (t1:(S29.ty × (List S50.ty) × Bool)) (s2:Int):Option (Int ⊕ (Bool ⊕ Unit)) :=
 if (decide (s2 < ((length t1.2.1:Nat):Int)))=true then if 0≤s2∧s2 < ((length t1.2.1:Nat):Int) then (if (((((getD t1.2.1 (toNat s2) S50.dflt).2).2).2).1)=true then some (Sum.inl (wrap .i64 (s2 + 1))) else (F_congresslaw15_members t1.2.1 ((((getD t1.2.1 (toNat s2) S50.dflt).2).2).1)).bind fun t3=>(if ((0:Int)≤wrap .i64 (s2 + 1)∧0≤toNat (wrap .i64 (s2 + 1))∧toNat (wrap .i64 (s2 + 1))≤length t1.2.1) then (F_congressref15_Counts (drop 0 (take (toNat (wrap .i64 (s2 + 1))) t1.2.1)) ((getD t1.2.1 (toNat s2) S50.dflt).1) (((getD t1.2.1 (toNat s2) S50.dflt).2).1) ((((getD t1.2.1 (toNat s2) S50.dflt).2).2).1)).bind fun t4=>((F_congressref09_Least t4 t3).bind fun t5=>((loopO (F_congresslaw15_ClusterSafe_b3 s2 t1 t3 t5) 0).bind (Sum.elim (fun y3=>some (Sum.inr (Sum.inl y3))) (fun j31=>some (Sum.inl (wrap .i64 (s2 + 1))))))) else none)) else none else some (Sum.inr (Sum.inr ()))
noncomputable def F_congresslaw15_ClusterSafe (x0:S24.ty):Option Bool :=
 (F_congresslaw15_played x0).bind fun t1=>((show Option Bool from (F_congresslaw15_fixed ).bind fun t9=>(if (!t9)=true then some true else some (!t1.2.2))).bind (fun r1=>if (r1)=true then (F_congresslaw15_fixed ).bind fun t2=>(some t2) else (loopO (F_congresslaw15_ClusterSafe_b2 t1) 0).bind (Sum.elim some (fun j21=>some true))))
theorem W_congresslaw15_ClusterSafe {x0:S24.ty} {y:Bool} (hF0:F_congresslaw15_ClusterSafe x0=some y):Pure Tryz.prog 6 [.v S24 x0] (vb y):=by
 unfold F_congresslaw15_ClusterSafe at hF0
 refine pure_of_run @Tryz.call6 @Tryz.func6 rfl rfl fun w M ho=>?_
 refine sq rfl (rg [(1,.ptr 5000 [] 0)] [(5000,.var 24 S24 x0)] [] [] 5000 rfl (by kernel_rfl) c0 (sq rfl ?_))
 obtain ⟨t1,h1,hF0⟩:=obd hF0
 refine rg [(4,.v (.sl S50) t1.2.1),(5,vb t1.2.2)] [] [(1,⟨[.v S24],.tup [.v S29 t1.1,.v (.sl S50) t1.2.1,vb t1.2.2],none⟩)] [] 5001 rfl (by kernel_rfl) (cc (W_congresslaw15_played h1) c0) (sq rfl (sq rfl ?_))
 obtain ⟨r1,hF1,hF0⟩:=obd hF0
 refine run_cut (fun r1'=>r1=r1') (fun r1=>[(4,.v (.sl S50) t1.2.1),(26,vb r1)]) (fun r1=>[]) (fun r1' h2=>?_) (fun J1_0=>?_)
 ·subst h2
  refine run_if rfl rfl (fun h3=>?_) (fun h3=>?_)
  ·replace hF0:=ift h3 hF0
   refine sq rfl ?_
   obtain ⟨t2,h4,hF0⟩:=obd hF0
   refine rg [(2,vb t2)] [] [(0,⟨[],vb t2,none⟩)] [] 5000 rfl (by kernel_rfl) (cc (W_congresslaw15_fixed h4) c0) ?_
   obtain rfl:=inj hF0
   exact ret_pure (q:=[vb t2]) [.bool] rfl rfl (by kernel_rfl)
  ·replace hF0:=ifn h3 hF0
   refine sk rfl (sq rfl (sq rfl (rg [(4,.v (.sl S50) t1.2.1),(6,vi 0)] [] [] [] 5000 rfl (by kernel_rfl) c0 (bk rfl ?_))))
   obtain ⟨r2,hl2,hF0⟩:=obd hF0
   refine run_cutx 0 rfl (fun j21=>r2=Sum.inr j21) (fun j21=>[]) (fun j21=>[]) (fun j21 h5=>?_) (fun J2_1=>?_)
   ·subst h5
    replace hF0:=sumR hF0
    refine sq rfl (rg [(2,vb true)] [] [] [] 5000 rfl (by kernel_rfl) c0 ?_)
    obtain rfl:=inj hF0
    exact ret_pure (q:=[vb true]) [.bool] rfl rfl (by kernel_rfl)
   refine run_loop rfl (run_loopO hl2 (fun s2=>[(4,.v (.sl S50) t1.2.1),(6,vi s2)]) (fun s2=>[]) rfl rfl (fun s2 o2 hF1 ih2 hr2=>?_))
   unfold F_congresslaw15_ClusterSafe_b2 at hF1
   refine run_again (sq rfl (sq rfl (rg [(4,.v (.sl S50) t1.2.1),(6,vi s2),(31,vb (decide (s2 < ((length t1.2.1:Nat):Int))))] [] [] [] 5000 rfl (by kernel_rfl) c0 ?_)))
   refine run_if rfl rfl (fun h6=>?_) (fun h6=>?_)
   ·replace hF1:=ift h6 hF1
    refine sk rfl (sq rfl (bk rfl (sq rfl ?_)))
    obtain ⟨h7,hF1⟩:=ifg hF1
    refine rg [(4,.v (.sl S50) t1.2.1),(6,vi s2),(7,.ptr 5080 [] 0)] [(5080,.var 50 S50 (getD t1.2.1 (toNat s2) S50.dflt))] [] [] 5000 rfl (by kernel_rfl) (cc h7 c0) (sq rfl (sq rfl (rg [(4,.v (.sl S50) t1.2.1),(6,vi s2),(7,.ptr 5080 [] 0),(40,vb (((((getD t1.2.1 (toNat s2) S50.dflt).2).2).2).1))] [(5080,.var 50 S50 (getD t1.2.1 (toNat s2) S50.dflt))] [] [] 5081 rfl (by kernel_rfl) c0 ?_)))
    refine run_if rfl rfl (fun h8=>?_) (fun h8=>?_)
    ·replace hF1:=ift h8 hF1
     refine run_exit rfl rfl (rg [(4,.v (.sl S50) t1.2.1),(6,vi (wrap .i64 (s2 + 1)))] [] [] [] 5081 rfl (by kernel_rfl) c0 ?_)
     exact ih2 _ (inj hF1).symm
    ·replace hF1:=ifn h8 hF1
     refine sk rfl (sq rfl ?_)
     obtain ⟨t3,h9,hF1⟩:=obd hF1
     refine rg [(4,.v (.sl S50) t1.2.1),(6,vi s2),(7,.ptr 5080 [] 0),(8,.ptr 5161 [] 0)] [(5080,.var 50 S50 (getD t1.2.1 (toNat s2) S50.dflt)),(5161,.var 46 (.arr 8 (.int .u32)) t3)] [(3,⟨[.v (.sl S50),.v S36],.v (.arr 8 (.int .u32)) t3,none⟩)] [] 5081 rfl (by kernel_rfl) (cc (W_congresslaw15_members h9) c0) (sq rfl ?_)
     obtain ⟨h10,hF1⟩:=ifg hF1
     obtain ⟨t4,h11,hF1⟩:=obd hF1
     refine rG [(4,.v (.sl S50) t1.2.1),(6,vi s2),(7,.ptr 5080 [] 0),(8,.ptr 5161 [] 0),(9,.ptr 5382 [] 0)] [(5080,.var 50 S50 (getD t1.2.1 (toNat s2) S50.dflt)),(5161,.var 46 (.arr 8 (.int .u32)) t3),(5382,.var 52 (.arr 8 (.int .u32)) t4)] [(10,⟨[.v (.sl S50),.v (.int .i64),.v (.int .u32),.v S36],.v (.arr 8 (.int .u32)) t4,none⟩)] [] 5162 rfl rfl (by kernel_rfl) (cc h10.1 (cc h10.2.1 (cc h10.2.2 (cc (W_congressref15_Counts h11) (cc (show (vi ((getD t1.2.1 (toNat s2) S50.dflt).1):AVal)=(vi ((getD t1.2.1 (toNat s2) S50.dflt).1)) from rfl) (cc (show (.v (.int .u32) (((getD t1.2.1 (toNat s2) S50.dflt).2).1):AVal)=(.v (.int .u32) (((getD t1.2.1 (toNat s2) S50.dflt).2).1)) from rfl) (cc (show (.v S36 ((((getD t1.2.1 (toNat s2) S50.dflt).2).2).1):AVal)=(.v S36 ((((getD t1.2.1 (toNat s2) S50.dflt).2).2).1)) from rfl) c0))))))) (sq rfl ?_)
     obtain ⟨t5,h12,hF1⟩:=obd hF1
     refine rg [(4,.v (.sl S50) t1.2.1),(6,vi s2),(7,.ptr 5080 [] 0),(8,.ptr 5161 [] 0),(10,.v (.int .u32) t5.1)] [(5080,.var 50 S50 (getD t1.2.1 (toNat s2) S50.dflt)),(5161,.var 46 (.arr 8 (.int .u32)) t3)] [(2,⟨[.v (.arr 8 (.int .u32)),.v (.arr 8 (.int .u32))],.tup [.v (.int .u32) t5.1,vb t5.2],none⟩)] [] 5383 rfl (by kernel_rfl) (cc (W_congressref09_Least h12) c0) (sq rfl (rg [(4,.v (.sl S50) t1.2.1),(6,vi s2),(7,.ptr 5080 [] 0),(8,.ptr 5161 [] 0),(10,.v (.int .u32) t5.1),(12,vi 0)] [(5080,.var 50 S50 (getD t1.2.1 (toNat s2) S50.dflt)),(5161,.var 46 (.arr 8 (.int .u32)) t3)] [] [] 5162 rfl (by kernel_rfl) c0 (bk rfl ?_)))
     obtain ⟨r3,hl3,hF1⟩:=obd hF1
     refine run_cutx 2 rfl (fun j31=>r3=Sum.inr j31) (fun j31=>[(4,.v (.sl S50) t1.2.1),(6,vi s2)]) (fun j31=>[]) (fun j31 h13=>?_) (fun J3_1=>?_)
     ·subst h13
      replace hF1:=sumR hF1
      refine eb (rg [(4,.v (.sl S50) t1.2.1),(6,vi (wrap .i64 (s2 + 1)))] [] [] [] 5000 rfl (by kernel_rfl) c0 ?_)
      exact ih2 _ (inj hF1).symm
     refine run_loop rfl (run_loopO hl3 (fun s3=>[(4,.v (.sl S50) t1.2.1),(6,vi s2),(7,.ptr 5080 [] 0),(8,.ptr 5161 [] 0),(10,.v (.int .u32) t5.1),(12,vi s3)]) (fun s3=>[(5080,.var 50 S50 (getD t1.2.1 (toNat s2) S50.dflt)),(5161,.var 46 (.arr 8 (.int .u32)) t3)]) rfl rfl (fun s3 o3 hF2 ih3 hr3=>?_))
     unfold F_congresslaw15_ClusterSafe_b3 at hF2
     refine run_again (sq rfl (sq rfl (rg [(4,.v (.sl S50) t1.2.1),(6,vi s2),(7,.ptr 5080 [] 0),(8,.ptr 5161 [] 0),(10,.v (.int .u32) t5.1),(12,vi s3),(63,vb (decide (s3 < 8)))] [(5080,.var 50 S50 (getD t1.2.1 (toNat s2) S50.dflt)),(5161,.var 46 (.arr 8 (.int .u32)) t3)] [] [] 5162 rfl (by kernel_rfl) c0 ?_)))
     refine run_if rfl rfl (fun h14=>?_) (fun h14=>?_)
     ·replace hF2:=ift h14 hF2
      refine sk rfl (sq rfl (bk rfl (sq rfl ?_)))
      obtain ⟨h15,hF2⟩:=ifg hF2
      obtain ⟨t6,h16,hF2⟩:=obd hF2
      refine rG [(4,.v (.sl S50) t1.2.1),(6,vi s2),(7,.ptr 5080 [] 0),(8,.ptr 5161 [] 0),(10,.v (.int .u32) t5.1),(12,vi s3),(14,vb t6.2)] [(5080,.var 50 S50 (getD t1.2.1 (toNat s2) S50.dflt)),(5161,.var 46 (.arr 8 (.int .u32)) t3)] [(7,⟨[.v (.sl S50),.v (.int .i64),.v (.int .u32),.v S36],.tup [.v S36 t6.1,vb t6.2],none⟩)] [] 5162 rfl rfl (by kernel_rfl) (cc h15 (cc (show offP (.arr 8 (.int .u32)) [.i (toNat s3)]=(0 + toNat s3 * 1) from offJ (p:=[]) (q:=[]) rfl (by kernel_rfl) (by kernel_rfl) (by kernel_rfl)) (cc (oo h15 trivial) (cc (W_congresslaw15_next h16) (cc (show (.v (.int .u32) (getD t3 (toNat s3) 0):AVal)=(.v (.int .u32) (getD t3 (toNat s3) 0)) from rfl) (cc (show offP (.arr 8 (.int .u32)) [.i (toNat s3)]=(0 + toNat s3 * 1) from offJ (p:=[]) (q:=[]) rfl (by kernel_rfl) (by kernel_rfl) (by kernel_rfl)) (cc (oo h15 trivial) (cc (show (.v S36 ((((getD t1.2.1 (toNat s2) S50.dflt).2).2).1):AVal)=(.v S36 ((((getD t1.2.1 (toNat s2) S50.dflt).2).2).1)) from rfl) c0)))))))) (sq rfl (sq rfl ?_))
      obtain ⟨r4,hF3,hF2⟩:=obd hF2
      refine run_cut (fun r4'=>r4=r4') (fun r4=>[(4,.v (.sl S50) t1.2.1),(6,vi s2),(7,.ptr 5080 [] 0),(8,.ptr 5161 [] 0),(10,.v (.int .u32) t5.1),(12,vi s3),(88,vb r4)]) (fun r4=>[(5080,.var 50 S50 (getD t1.2.1 (toNat s2) S50.dflt)),(5161,.var 46 (.arr 8 (.int .u32)) t3)]) (fun r4' h17=>?_) (fun J4_0=>?_)
      ·subst h17
       refine run_if rfl rfl (fun h18=>?_) (fun h18=>?_)
       ·replace hF2:=ift h18 hF2
        refine run_exit rfl rfl (rg [(4,.v (.sl S50) t1.2.1),(6,vi s2),(7,.ptr 5080 [] 0),(8,.ptr 5161 [] 0),(10,.v (.int .u32) t5.1),(12,vi (wrap .i64 (s3 + 1)))] [(5080,.var 50 S50 (getD t1.2.1 (toNat s2) S50.dflt)),(5161,.var 46 (.arr 8 (.int .u32)) t3)] [] [] 5162 rfl (by kernel_rfl) c0 ?_)
        exact ih3 _ (inj hF2).symm
       ·replace hF2:=ifn h18 hF2
        refine sk rfl (sq rfl ?_)
        obtain ⟨h19,hF2⟩:=ifg hF2
        obtain ⟨t7,h20,hF2⟩:=obd hF2
        obtain ⟨t8,h21,hF2⟩:=obd hF2
        refine rG [(4,.v (.sl S50) t1.2.1),(6,vi s2),(7,.ptr 5080 [] 0),(8,.ptr 5161 [] 0),(10,.v (.int .u32) t5.1),(12,vi s3),(102,vb (!t8))] [(5080,.var 50 S50 (getD t1.2.1 (toNat s2) S50.dflt)),(5161,.var 46 (.arr 8 (.int .u32)) t3)] [(7,⟨[.v (.sl S50),.v (.int .i64),.v (.int .u32),.v S36],.v (.arr 8 (.int .u32)) t7,none⟩),(12,⟨[.v (.arr 8 (.int .u32)),.v (.arr 8 (.int .u32)),.v (.int .u64)],vb t8,none⟩)] [] 5162 rfl rfl (by kernel_rfl) (cc h19 (cc (show offP (.arr 8 (.int .u32)) [.i (toNat s3)]=(0 + toNat s3 * 1) from offJ (p:=[]) (q:=[]) rfl (by kernel_rfl) (by kernel_rfl) (by kernel_rfl)) (cc (oo h19 trivial) (cc (W_congressref15_Counts h20) (cc (W_congressref09_Full h21) c0))))) ?_
        refine run_if rfl rfl (fun h22=>?_) (fun h22=>?_)
        ·replace hF2:=ift h22 hF2
         refine sq rfl (rg [(2,vb false)] [] [] [] 5162 rfl (by kernel_rfl) c0 ?_)
         have e3:=inrI hr3 hF2
         subst e3
         replace hF1:=sumL hF1
         have e2:=inrI hr2 hF1
         subst e2
         replace hF0:=sumL hF0
         obtain rfl:=inj hF0
         exact ret_pure (q:=[vb false]) [.bool] rfl rfl (by kernel_rfl)
        ·replace hF2:=ifn h22 hF2
         refine sk rfl (eb (rg [(4,.v (.sl S50) t1.2.1),(6,vi s2),(7,.ptr 5080 [] 0),(8,.ptr 5161 [] 0),(10,.v (.int .u32) t5.1),(12,vi (wrap .i64 (s3 + 1)))] [(5080,.var 50 S50 (getD t1.2.1 (toNat s2) S50.dflt)),(5161,.var 46 (.arr 8 (.int .u32)) t3)] [] [] 5162 rfl (by kernel_rfl) c0 ?_))
         exact ih3 _ (inj hF2).symm
      obtain ⟨h23,hF3⟩:=ifg hF3
      rcases Bool.eq_false_or_eq_true ((getD t3 (toNat s3) 0) == 0) with h24 | h24
      ·replace hF3:=ift h24 hF3
       refine rg [(4,.v (.sl S50) t1.2.1),(6,vi s2),(7,.ptr 5080 [] 0),(8,.ptr 5161 [] 0),(10,.v (.int .u32) t5.1),(12,vi s3),(88,vb true)] [(5080,.var 50 S50 (getD t1.2.1 (toNat s2) S50.dflt)),(5161,.var 46 (.arr 8 (.int .u32)) t3)] [] [(4,true)] 5162 rfl (by kernel_rfl) (cc h23 (cc (show offP (.arr 8 (.int .u32)) [.i (toNat s3)]=(0 + toNat s3 * 1) from offJ (p:=[]) (q:=[]) rfl (by kernel_rfl) (by kernel_rfl) (by kernel_rfl)) (cc (oo h23 trivial) (cc h24 c0)))) ?_
       exact J4_0 _ (inj hF3).symm
      ·replace hF3:=ifn h24 hF3
       rcases Bool.eq_false_or_eq_true (!t6.2) with h25 | h25
       ·replace hF3:=ift h25 hF3
        refine rg [(4,.v (.sl S50) t1.2.1),(6,vi s2),(7,.ptr 5080 [] 0),(8,.ptr 5161 [] 0),(10,.v (.int .u32) t5.1),(12,vi s3),(88,vb true)] [(5080,.var 50 S50 (getD t1.2.1 (toNat s2) S50.dflt)),(5161,.var 46 (.arr 8 (.int .u32)) t3)] [] [(4,false),(8,true)] 5162 rfl (by kernel_rfl) (cc h23 (cc (show offP (.arr 8 (.int .u32)) [.i (toNat s3)]=(0 + toNat s3 * 1) from offJ (p:=[]) (q:=[]) rfl (by kernel_rfl) (by kernel_rfl) (by kernel_rfl)) (cc (oo h23 trivial) (cc h24 (cc h25 c0))))) ?_
        exact J4_0 _ (inj hF3).symm
       ·replace hF3:=ifn h25 hF3
        refine rg [(4,.v (.sl S50) t1.2.1),(6,vi s2),(7,.ptr 5080 [] 0),(8,.ptr 5161 [] 0),(10,.v (.int .u32) t5.1),(12,vi s3),(88,vb (decide (t5.1 < 2)))] [(5080,.var 50 S50 (getD t1.2.1 (toNat s2) S50.dflt)),(5161,.var 46 (.arr 8 (.int .u32)) t3)] [] [(4,false),(8,false)] 5162 rfl (by kernel_rfl) (cc h23 (cc (show offP (.arr 8 (.int .u32)) [.i (toNat s3)]=(0 + toNat s3 * 1) from offJ (p:=[]) (q:=[]) rfl (by kernel_rfl) (by kernel_rfl) (by kernel_rfl)) (cc (oo h23 trivial) (cc h24 (cc h25 c0))))) ?_
        exact J4_0 _ (inj hF3).symm
     ·replace hF2:=ifn h14 hF2
      refine run_exit rfl rfl (tm (ρ':=[(4,.v (.sl S50) t1.2.1),(6,vi s2)]) (H':=[]) (by kernel_rfl) (by kernel_rfl) rfl ?_)
      exact J3_1 _ (inrI hr3 hF2).symm
   ·replace hF1:=ifn h6 hF1
    refine run_exit rfl rfl (tm (ρ':=[]) (H':=[]) (by kernel_rfl) (by kernel_rfl) rfl ?_)
    exact J2_1 _ (inrI hr2 hF1).symm
 obtain ⟨t9,h26,hF1⟩:=obd hF1
 rcases Bool.eq_false_or_eq_true (!t9) with h27 | h27
 ·replace hF1:=ift h27 hF1
  refine rg [(4,.v (.sl S50) t1.2.1),(26,vb true)] [] [(0,⟨[],vb t9,none⟩)] [(2,true)] 5000 rfl (by kernel_rfl) (cc (W_congresslaw15_fixed h26) (cc h27 c0)) ?_
  exact J1_0 _ (inj hF1).symm
 ·replace hF1:=ifn h27 hF1
  refine rg [(4,.v (.sl S50) t1.2.1),(26,vb (!t1.2.2))] [] [(0,⟨[],vb t9,none⟩)] [(2,false)] 5000 rfl (by kernel_rfl) (cc (W_congresslaw15_fixed h26) (cc h27 c0)) ?_
  exact J1_0 _ (inj hF1).symm
end Go.Proofs.YtjcbamenfaoffaaGreatDoor
set_option linter.unusedVariables false
set_option linter.unusedSimpArgs false
namespace Go.Proofs.YtjcbamenfaoffaaGreatDoor.Mo
section
variable {φ:Type} {n:Nat} {w:MW φ}
theorem good_pre {l:List (MT φ)} (h:Good l):∀ l1 l2:List (MT φ),l=l1++l2→Good l1:=by
 induction h with
 | nil=>intro l1 l2 e;cases l1 with
  | nil=>exact .nil
  | cons=>cases e
 | @snoc l s h p ih =>
  intro l1 l2 e
  rcases List.eq_nil_or_concat l2 with rfl | ⟨l3,x,rfl⟩
  ·rw [List.append_nil] at e
   rw [← e];exact .snoc h p
  ·have e2:l++[s]=(l1++l3)++[x]:=by rw [e];simp
   obtain ⟨e3,e4⟩:=List.append_inj' e2 rfl
   exact ih l1 l3 e3
theorem good_ex {l:List (MT φ)} (h:Good l) {who:Nat} {inc inn:Int} {k:Nat} {r:Int} (hr:1≤r) (hc:r≤Cn l who inc inn k):∃ s ∈ l,hit who inc inn k s=true∧s.rnd=r:=by
 induction h with
 | nil=>simp only [Cn] at hc;omega
 | @snoc l t h p ih =>
  by_cases q:r≤Cn l who inc inn k
  ·obtain ⟨s,hs,h1⟩:=ih q
   exact ⟨s,List.mem_append_left _ hs,h1⟩
  ·rw [Cn_app,Cn_single] at hc
   by_cases ht:hit who inc inn k t=true
   ·rw [if_pos ht] at hc
    obtain ⟨q1,q2,q3,q4,q5⟩:=hit_iff.1 ht
    refine ⟨t,List.mem_append_right _ (List.mem_singleton.2 rfl),ht,?_⟩
    rw [p.r q1,q2,q3,q4,q5];omega
   ·rw [if_neg ht] at hc;omega
theorem m_members (I:InvM n w) {t:MT φ} (ht:t ∈ w.told):∃ m,w.T t.inn=some m∧(∀ b ∈ w.told,b.view=true→b.conf=t.inn→b.mem=m)∧((∀ b ∈ w.told,b.view=true→b.conf≠t.inn)→t.inn=mkI 0 t.who t.inc∧0≤t.inc∧t.inc < 4294967296→m=fun k=>if k=t.who then t.inc else 0)∧((∀ b ∈ w.told,b.view=true→b.conf≠t.inn)→t.inn=mkI 0 t.who t.inc):=by
 have h:=I.l t ht
 obtain ⟨m,e,e2,_⟩:=h.m
 refine ⟨m,e,fun b hb bv bc=>?_,fun hn hq=>?_,fun hn=>?_⟩
 ·have:=((I.l b hb).v1 bv).1
  rw [bc,e] at this
  exact (inj this).symm
 ·obtain ⟨q,q1,q2⟩:=hq
  have n8:=I.n8
  have ha:=h.a
  have hz:=(I.t _ _ e).z (by rw [q];exact ep_mk (by omega) (by omega) (by omega))
  rw [q,co_mk (by omega) (by omega) (by omega),ic_mk (by omega) (by omega) (by omega)] at hz
  funext k
  by_cases hk:k=t.who
  ·rw [if_pos hk,hk,e2]
  ·rw [if_neg hk]
   by_cases hm:m k=0
   ·exact hm
   ·exact absurd (hz k hm).1 hk
 ·rcases h.bg with h | ⟨b,hb,b1,b2,b3,b4⟩
  ·exact h
  ·exact absurd b4 (hn b hb b1)
theorem m_safe (I:InvM n w) {l1 l2:List (MT φ)} {t:MT φ} (e:w.told=l1++l2) (ht:t ∈ l1) {m:Nat→Int} (hm:w.T t.inn=some m) {L:Int} (hL:1≤L) {q:Nat} (hq:m q≠0) (hc:L≤Cn l1 t.who t.inc t.inn q):∀ k,m k≠0→L - 1≤Cn w.told q (m q) t.inn k:=by
 intro k hk
 obtain ⟨s,hs,h1,h2⟩:=good_ex (good_pre I.q l1 l2 e) hL hc
 obtain ⟨s1,s2,s3,s4,s5⟩:=hit_iff.1 h1
 obtain ⟨⟨o,ho,o1,o2,o3,o4,o5,o6⟩,_⟩:=(I.l s (by rw [e];simp [hs])).o s1
 obtain ⟨m',e1,e2,e3⟩:=(I.l o ho).m
 rw [o2,s4,hm] at e1
 obtain rfl:=inj e1
 have:=e3 o1 (o3.trans o4.symm) k hk
 rw [o5,h2,← e2,o3,s5,o2,s4] at this
 exact this
end
end Go.Proofs.YtjcbamenfaoffaaGreatDoor.Mo
set_option linter.unusedVariables false
set_option linter.unusedSimpArgs false
namespace Go.Proofs.YtjcbamenfaoffaaGreatDoor.Cl
open Go.RowKit Go.IntWalk Mo
theorem and7 {x:Int} (h:0≤x∧x≤7):bits .and .i64 x 7=x:=by
 rcases (show x=0∨x=1∨x=2∨x=3∨x=4∨x=5∨x=6∨x=7 by omega) with rfl | rfl | rfl | rfl | rfl | rfl | rfl | rfl<;>decide
theorem and7u {x:Int} (h:0≤x∧x≤7):bits .and .u32 x 7=x:=by
 rcases (show x=0∨x=1∨x=2∨x=3∨x=4∨x=5∨x=6∨x=7 by omega) with rfl | rfl | rfl | rfl | rfl | rfl | rfl | rfl<;>decide
end Go.Proofs.YtjcbamenfaoffaaGreatDoor.Cl
set_option linter.unusedVariables false
set_option linter.unusedSimpArgs false
namespace Go.Proofs.YtjcbamenfaoffaaGreatDoor.Cl
open Go.RowKit Go.IntWalk Mo
theorem Cn_le (l:List (MT FrT)) (who:Nat) (inc inn:Int) (k:Nat):Cn l who inc inn k≤(l.length:Int):=by
 induction l with
 | nil=>simp [Cn]
 | cons t l ih=>simp only [Cn,List.length_cons];split<;>omega
theorem f_Counts {t:List ToT} (ht:∀ x ∈ t,okTo x) (hlen:t.length≤1350) (w:Nat) (inc:Int) {inn:I3} (hin:okI3 inn) :
  ∃ r:List Int,F_congressref15_Counts t (w:Int) inc inn=some r∧r.length=8∧∀ k,k < 8→r.getD k 0=Cn (t.map toM) w inc (rk inn) k:=by
 unfold F_congressref15_Counts
 have:=loop_for (N:=t.length) (mk:=fun (k:Nat) (s:List Int)=>((k:Int),s)) (body:=F_congressref15_Counts_b1 t (w:Int) inc inn)
  (fun i s=>if (t.getD i toZ).1=(w:Int)∧(t.getD i toZ).2.1=inc∧(t.getD i toZ).2.2.1=inn∧(t.getD i toZ).2.2.2.1=false then s.set (t.getD i toZ).2.2.2.2.1.1.toNat (s.getD (t.getD i toZ).2.2.2.2.1.1.toNat 0 + 1) else s) (fun s=>s)
  (fun i s=>s.length=8∧∀ k,k < 8→s.getD k 0=Cn ((t.take i).map toM) w inc (rk inn) k) (fun i s hi hs=>?_) (fun s _=>?_) (s:=replicate 8 0) ⟨by simp,fun k _=>by rw [getD_zero];simp [Cn]⟩
 ·obtain ⟨e,i1,i2⟩:=this
  have e:loopO (F_congressref15_Counts_b1 t (w:Int) inc inn) (0,replicate 8 0)=_:=e
  rw [List.take_length] at i2
  rw [e]
  exact ⟨_,rfl,i1,i2⟩
 ·have ok:okTo (t.getD i toZ):=by rw [getD_lt hi];exact ht _ (List.getElem_mem hi)
  have oka:=ok.a
  have okf:=ok.d.k.a
  have hstep:∀ k,Cn ((t.take (i + 1)).map toM) w inc (rk inn) k=Cn ((t.take i).map toM) w inc (rk inn) k + if hit w inc (rk inn) k (toM (t.getD i toZ))=true then 1 else 0:=by
   intro k
   rw [List.take_add_one,List.getElem?_eq_getElem hi,List.map_append,Cn_app,← getD_lt (d:=toZ) hi]
   exact congrArg _ (Cn_single _ _ _ _ _)
  have hhit:∀ k,hit w inc (rk inn) k (toM (t.getD i toZ))=true↔((t.getD i toZ).1=(w:Int)∧(t.getD i toZ).2.1=inc∧(t.getD i toZ).2.2.1=inn∧(t.getD i toZ).2.2.2.1=false)∧(t.getD i toZ).2.2.2.2.1.1.toNat=k:=by
   intro k
   rw [hit_iff]
   have e1:(toM (t.getD i toZ)).who=w↔(t.getD i toZ).1=(w:Int):=by
    show (t.getD i toZ).1.toNat=w↔_
    omega
   have e2:(toM (t.getD i toZ)).inn=rk inn↔(t.getD i toZ).2.2.1=inn:=rk_eq ok.c.ok hin
   rw [e1,e2]
   constructor
   ·rintro ⟨a,b,c,d,e⟩;exact ⟨⟨b,c,d,a⟩,e⟩
   ·rintro ⟨⟨b,c,d,a⟩,e⟩;exact ⟨a,b,c,d,e⟩
  have hcl:∀ k,k < 8→0≤s.getD k 0∧s.getD k 0≤1350:=by
   intro k hk
   rw [hs.2 k hk]
   have a:=Cn_nn ((t.take i).map toM) w inc (rk inn) k
   have b:=Cn_le ((t.take i).map toM) w inc (rk inn) k
   rw [List.length_map,List.length_take] at b
   omega
  refine ⟨?_,?_,fun k hk=>?_⟩
  ·simp only [F_congressref15_Counts_b1]
   have hrg:0≤(i:Int)∧(i:Int) < (t.length:Int):=by omega
   rw [if_pos (by simp;omega)]
   simp only [Int.toNat_natCast,wi (show i < 1000000000000 by omega)]
   by_cases k1:(t.getD i toZ).1=(w:Int)
   ·have k1':((getD t i S50.dflt).1 == (w:Int))=true:=by simpa using k1
    rw [if_pos hrg,if_pos k1']
    by_cases k2:(t.getD i toZ).2.1=inc
    ·have k2':((getD t i S50.dflt).2.1 == inc)=true:=by simpa using k2
     rw [if_pos hrg,if_pos k2']
     by_cases k3:(t.getD i toZ).2.2.1=inn
     ·have k3':Sh.eqb S36 (getD t i S50.dflt).2.2.1 inn=true:=eqI.2 k3
      rw [if_pos hrg,if_pos k3',if_pos hrg]
      simp only [Option.bind_some]
      by_cases k4:(t.getD i toZ).2.2.2.1=false
      ·have k4':(!(getD t i S50.dflt).2.2.2.1)=true:=by rw [show (getD t i S50.dflt).2.2.2.1=false from k4];decide
       have e7:bits .and .i64 (getD t i S50.dflt).2.2.2.2.1.1 7=(t.getD i toZ).2.2.2.2.1.1:=and7 okf
       have hc:=hcl (t.getD i toZ).2.2.2.2.1.1.toNat (by omega)
       have h8:0≤(t.getD i toZ).2.2.2.2.1.1∧(t.getD i toZ).2.2.2.2.1.1 < ((8:Nat):Int):=by omega
       have hcc:(t.getD i toZ).1=(w:Int)∧(t.getD i toZ).2.1=inc∧(t.getD i toZ).2.2.1=inn∧(t.getD i toZ).2.2.2.1=false:=⟨k1,k2,k3,k4⟩
       rw [if_pos k4',if_pos hrg,e7,if_pos h8,if_pos h8,wr32 (by omega),if_pos hcc]
      ·have k4':¬ (!(getD t i S50.dflt).2.2.2.1)=true:=by rw [show (getD t i S50.dflt).2.2.2.1=true by simpa using k4];decide
       rw [if_neg k4',if_neg (fun q=>k4 q.2.2.2)]
     ·have k3':¬ Sh.eqb S36 (getD t i S50.dflt).2.2.1 inn=true:=fun q=>k3 (eqI.1 q)
      rw [if_pos hrg,if_neg k3']
      simp only [Option.bind_some]
      rw [if_neg (by decide),if_neg (fun q=>k3 q.2.2.1)]
    ·have k2':¬ ((getD t i S50.dflt).2.1 == inc)=true:=by simpa using k2
     rw [if_pos hrg,if_neg k2']
     simp only [Option.bind_some]
     rw [if_neg (by decide),if_neg (fun q=>k2 q.2.1)]
   ·have k1':¬ ((getD t i S50.dflt).1 == (w:Int))=true:=by simpa using k1
    rw [if_pos hrg,if_neg k1']
    simp only [Option.bind_some]
    rw [if_neg (by decide),if_neg (fun q=>k1 q.1)]
  ·split
   ·rw [List.length_set];exact hs.1
   ·exact hs.1
  ·rw [hstep k]
   by_cases q:(t.getD i toZ).1=(w:Int)∧(t.getD i toZ).2.1=inc∧(t.getD i toZ).2.2.1=inn∧(t.getD i toZ).2.2.2.1=false
   ·rw [if_pos q,getD_set (by rw [hs.1];omega)]
    by_cases e:k=(t.getD i toZ).2.2.2.2.1.1.toNat
    ·rw [if_pos e,if_pos ((hhit k).2 ⟨q,e.symm⟩),← e,hs.2 k hk]
    ·rw [if_neg e,if_neg (fun z=>e ((hhit k).1 z).2.symm),hs.2 k hk];omega
   ·rw [if_neg q,if_neg (fun z=>q ((hhit k).1 z).1),hs.2 k hk];omega
 ·simp only [F_congressref15_Counts_b1]
  rw [if_neg (by simp)]
end Go.Proofs.YtjcbamenfaoffaaGreatDoor.Cl
set_option linter.unusedVariables false
set_option linter.unusedSimpArgs false
namespace Go.Proofs.YtjcbamenfaoffaaGreatDoor.Cl
open Go.RowKit Go.IntWalk Mo
theorem f_List7 {m:List Int} (hm:ok8 m):F_congressref07_List m=some (idI m):=by
 unfold F_congressref07_List
 have h:=loop_for (N:=8) (mk:=fun (k:Nat) (s:List Int)=>((k:Int),s)) (body:=F_congressref07_List_b1 m) (fun k s=>if (m.getD k 0 != 0)=true then s++[(k:Int)] else s) (fun s=>s) (fun k s=>s.length≤k)
  (fun i s hi hs=>?_) (fun s hs=>?_) (s:=[]) (Nat.le_refl _)
 ·have h1:loopO (F_congressref07_List_b1 m) (0,[])=_:=h.1
  rw [forN_filter (fun k=>m.getD k 0 != 0) (fun (k:Nat)=>(k:Int))] at h1
  rw [h1]
  simp [idI,idl]
 ·have hg:=ok8_get hm i
  refine ⟨?_,?_⟩
  ·simp only [F_congressref07_List_b1]
   rw [if_pos (by simp;omega),if_pos (by omega)]
   simp only [Int.toNat_natCast,wi (show i < 1000000000000 by omega)]
   by_cases q:m.getD i 0=0
   ·rw [if_neg (by rw [decide_eq_true_eq];omega),if_neg (by rw [q];decide)]
   ·rw [if_pos (by rw [decide_eq_true_eq];omega),if_pos (apOk_s (by omega) (by omega)),if_pos (by simpa using q)]
  ·split
   ·simp;omega
   ·omega
 ·simp only [F_congressref07_List_b1]
  rw [if_neg (by simp)]
theorem f_Least9 {c m:List Int} (hm:ok8 m) (hc:∀ k,k < 8→0≤c.getD k 0∧c.getD k 0≤1350):∃ n:Int,∃ b:Bool,F_congressref09_Least c m=some (n,b)∧(0≤n∧n≤1350)∧∀ k,k < 8→m.getD k 0≠0→n≤c.getD k 0:=by
 unfold F_congressref09_Least
 rw [f_List7 hm,Option.bind_some]
 by_cases h:(idI m).length=0
 ·refine ⟨0,false,by rw [if_pos (by simp [h])],by omega,fun k h1 h2=>(hc k h1).1⟩
 ·rw [if_neg (by simp;intro q;simp [q] at h),if_pos (by omega)]
  have hlen:=idI_len m
  have hlen2:=idl_len m
  obtain ⟨k0,e0,hk0,hm0⟩:=idI_get (m:=m) (i:=0) (by omega)
  have e0':getD (idI m) (toNat 0) 0=(k0:Int):=e0
  rw [e0',if_pos (by omega),Int.toNat_natCast]
  have hl:=loop_rel (N:=(idI m).length - 1) (mk:=fun (k:Nat) (s:Int)=>(s,((k + 1:Nat):Int))) (body:=F_congressref09_Least_b1 (idI m) c)
   (fun j s=>(0≤s∧s≤1350)∧∀ a,a < j + 1→s≤c.getD (toNat ((idI m).getD a 0)) 0) (fun (r:Int)=>(0≤r∧r≤1350)∧∀ a,a < (idI m).length→r≤c.getD (toNat ((idI m).getD a 0)) 0)
   (fun j s hj hs=>?_) (fun s hs=>?_) (s:=c.getD k0 0) ⟨hc k0 hk0,fun a ha=>?_⟩
  ·obtain ⟨r,e,r1,r2⟩:=hl
   have e:loopO (F_congressref09_Least_b1 (idI m) c) (c.getD k0 0,1)=_:=e
   rw [e,Option.bind_some]
   refine ⟨r,true,rfl,r1,fun k h1 h2=>?_⟩
   obtain ⟨j,hj,ej⟩:=List.mem_iff_getElem.1 (mem_idI.2 ⟨k,rfl,h1,h2⟩)
   have:=r2 j hj
   rw [getD_lt hj,ej,Int.toNat_natCast] at this
   exact this
  ·obtain ⟨k,ek,hk,hmk⟩:=idI_get (m:=m) (i:=j + 1) (by omega)
   have hck:=hc k hk
   simp only [F_congressref09_Least_b1]
   rw [if_pos (by simp;omega),if_pos (by omega)]
   simp only [Int.toNat_natCast,ek,wi (show j + 1 < 1000000000000 by omega)]
   rw [if_pos (by omega)]
   by_cases q:c.getD k 0 < s
   ·rw [if_pos (by rw [decide_eq_true_eq];exact q),if_pos (by omega),if_pos (by omega)]
    refine ⟨c.getD k 0,rfl,hck,fun a ha=>?_⟩
    by_cases e:a=j + 1
    ·rw [e,ek,Int.toNat_natCast];exact Int.le_refl _
    ·have:=hs.2 a (by omega);omega
   ·rw [if_neg (by rw [decide_eq_true_eq];exact q)]
    refine ⟨s,rfl,hs.1,fun a ha=>?_⟩
    by_cases e:a=j + 1
    ·rw [e,ek,Int.toNat_natCast];omega
    ·exact hs.2 a (by omega)
  ·refine ⟨s,?_,hs.1,fun a ha=>hs.2 a (by omega)⟩
   simp only [F_congressref09_Least_b1]
   rw [if_neg (by simp;omega)]
  ·obtain rfl:a=0:=by omega
   rw [e0,Int.toNat_natCast];exact Int.le_refl _
theorem f_Full {c m:List Int} (hm:ok8 m) {r:Int} (hr:∀ k,k < 8→m.getD k 0≠0→0≤c.getD k 0∧c.getD k 0≤4294967295∧r≤c.getD k 0):F_congressref09_Full c m r=some true:=by
 unfold F_congressref09_Full
 rw [f_List7 hm,Option.bind_some]
 have hlen:=idI_len m
 have hlen2:=idl_len m
 have:loopO (F_congressref09_Full_b1 (idI m) c r) 0=some (.inr ()):=by
  refine loop_skip (N:=(idI m).length) (mk:=fun (k:Nat)=>(k:Int)) (fun i hi=>?_) ?_
  ·obtain ⟨k,ek,hk,hmk⟩:=idI_get (m:=m) hi
   obtain ⟨h1,h2,h3⟩:=hr k hk hmk
   simp only [F_congressref09_Full_b1]
   rw [if_pos (by simp;omega),if_pos (by omega)]
   simp only [Int.toNat_natCast,ek,wi (show i < 1000000000000 by omega)]
   rw [if_pos (by omega),wru (by omega),if_neg (by rw [decide_eq_true_eq];omega)]
  ·simp only [F_congressref09_Full_b1]
   rw [if_neg (by simp)]
 rw [this];rfl
theorem f_next {t:List ToT} (hlen:t.length≤1350) (q inc:Int) (d:I3):∃ y:I3,∃ b:Bool,F_congresslaw15_next t q inc d=some (y,b):=by
 unfold F_congresslaw15_next
 have:=loop_first (N:=t.length) (mk:=fun (k:Nat)=>(k:Int)) (body:=F_congresslaw15_next_b1 t q inc d) (fun i=>(t.getD i toZ).1 == q && ((t.getD i toZ).2.1 == inc && (Sh.eqb S36 (t.getD i toZ).2.2.1 d && (t.getD i toZ).2.2.2.1))) (fun i=>Sum.inl ((t.getD i toZ).2.2.2.2.2.1,true)) (Sum.inr ()) (fun i hi=>?_) ?_
 ·have this:loopO (F_congresslaw15_next_b1 t q inc d) 0=_:=this
  rw [this,Option.bind_some]
  cases (List.range t.length).find? (fun i=>(t.getD i toZ).1 == q && ((t.getD i toZ).2.1 == inc && (Sh.eqb S36 (t.getD i toZ).2.2.1 d && (t.getD i toZ).2.2.2.1)))<;>exact ⟨_,_,rfl⟩
 ·simp only [F_congresslaw15_next_b1]
  rw [if_pos (by simp;omega),if_pos (by omega)]
  simp only [Int.toNat_natCast,wi (show i < 1000000000000 by omega)]
  have key:(if ((getD t i S50.dflt).1 == q)=true then if ((getD t i S50.dflt).2.1 == inc)=true then if (Sh.eqb S36 (getD t i S50.dflt).2.2.1 d)=true then some (getD t i S50.dflt).2.2.2.1 else some false else some false else some false:Option Bool)=some ((t.getD i toZ).1 == q && ((t.getD i toZ).2.1 == inc && (Sh.eqb S36 (t.getD i toZ).2.2.1 d && (t.getD i toZ).2.2.2.1))):=by
   show (if ((t.getD i toZ).1 == q)=true then if ((t.getD i toZ).2.1 == inc)=true then if (Sh.eqb S36 (t.getD i toZ).2.2.1 d)=true then some (t.getD i toZ).2.2.2.1 else some false else some false else some false:Option Bool)=_
   cases ((t.getD i toZ).1 == q)<;>cases ((t.getD i toZ).2.1 == inc)<;>cases (Sh.eqb S36 (t.getD i toZ).2.2.1 d)<;>rfl
  rw [key]
  simp only [Option.bind_some]
  split<;>rfl
 ·simp only [F_congresslaw15_next_b1]
  rw [if_neg (by simp)]
theorem f_members {n:Nat} {t:List ToT} (T:Told n t) {i:Nat} (hi:i < t.length):∃ m:List Int,F_congresslaw15_members t (t.getD i toZ).2.2.1=some m∧ok8 m∧∃ w:MW FrT,InvM n w∧w.told=t.map toM∧w.T (rk (t.getD i toZ).2.2.1)=some (gt m):=by
 obtain ⟨w,I,ew⟩:=T.w
 have hlen:=T.len
 have ok:=told_ok T hi
 have hmem:∀ j,j < t.length→toM (t.getD j toZ) ∈ w.told:=by
  intro j hj
  rw [ew]
  exact List.mem_map.2 ⟨_,by rw [getD_lt hj];exact List.getElem_mem hj,rfl⟩
 obtain ⟨M,hM,h1,h2,h3⟩:=m_members I (hmem i hi)
 unfold F_congresslaw15_members
 have:=loop_first (N:=t.length) (mk:=fun (k:Nat)=>(k:Int)) (body:=F_congresslaw15_members_b1 t (t.getD i toZ).2.2.1) (fun j=>(t.getD j toZ).2.2.2.1 && Sh.eqb S36 (t.getD j toZ).2.2.2.2.2.1 (t.getD i toZ).2.2.1) (fun j=>Sum.inl (t.getD j toZ).2.2.2.2.2.2) (Sum.inr ()) (fun j hj=>?_) ?_
 ·have this:loopO (F_congresslaw15_members_b1 t (t.getD i toZ).2.2.1) 0=_:=this
  rw [this,Option.bind_some]
  cases hf:(List.range t.length).find? (fun j=>(t.getD j toZ).2.2.2.1 && Sh.eqb S36 (t.getD j toZ).2.2.2.2.2.1 (t.getD i toZ).2.2.1) with
  | some j =>
   have hj:=List.mem_range.1 (List.mem_of_find?_eq_some hf)
   have hp:=List.find?_some hf
   rw [Bool.and_eq_true,eqI] at hp
   refine ⟨_,rfl,(told_ok T hj).d.m,w,I,ew,?_⟩
   have:gt (t.getD j toZ).2.2.2.2.2.2=M:=h1 _ (hmem j hj) hp.1 (by show rk _=rk _;rw [hp.2])
   rw [this];exact hM
  | none =>
   rw [List.find?_eq_none] at hf
   have hno:∀ b ∈ w.told,b.view=true→b.conf≠(toM (t.getD i toZ)).inn:=by
    intro b hb bv bc
    rw [ew] at hb
    obtain ⟨x,hx,rfl⟩:=List.mem_map.1 hb
    obtain ⟨j,hj,ej⟩:=List.mem_iff_getElem.1 hx
    have ex:t.getD j toZ=x:=by rw [getD_lt hj];exact ej
    have okx:=told_ok T hj
    rw [ex] at okx
    refine hf j (List.mem_range.2 hj) ?_
    rw [ex,Bool.and_eq_true]
    exact ⟨bv,eqI.2 (rk_inj okx.d.c.ok ok.c.ok bc)⟩
   have e3:=h3 hno
   have hb:=ok.b
   unfold U at hb
   have hM2:=h2 hno ⟨e3,hb.1,by show (t.getD i toZ).2.1 < 4294967296;omega⟩
   have oka:=ok.a
   have okc:=ok.c
   have okcc:=okc.c
   obtain ⟨ca,cb,cc⟩:=okc.ok
   have e3:mkI (t.getD i toZ).2.2.1.1 (t.getD i toZ).2.2.1.2.1.toNat (t.getD i toZ).2.2.1.2.2=mkI 0 (t.getD i toZ).1.toNat (t.getD i toZ).2.1:=e3
   unfold mkI at e3
   have f1:(t.getD i toZ).2.2.1.2.1=(t.getD i toZ).1:=by omega
   have f2:(t.getD i toZ).2.2.1.2.2=(t.getD i toZ).2.1:=by omega
   simp only [Sum.elim_inr]
   have e7:bits .and .u32 (t.getD i toZ).2.2.1.2.1 7=(t.getD i toZ).1:=by rw [f1];exact and7u oka
   rw [e7,if_pos (by omega),f2]
   refine ⟨_,rfl,ok8_set ok8_zero (by omega),w,I,ew,?_⟩
   rw [show w.T (rk (t.getD i toZ).2.2.1)=some M from hM,hM2]
   congr 1
   funext k
   show (if k=(t.getD i toZ).1.toNat then (t.getD i toZ).2.1 else 0)=((replicate 8 (0:Int)).set (t.getD i toZ).1.toNat (t.getD i toZ).2.1).getD k 0
   rw [getD_set (by show (t.getD i toZ).1.toNat < 8;omega),getD_zero]
 ·simp only [F_congresslaw15_members_b1]
  have hrg:0≤(j:Int)∧(j:Int) < (t.length:Int):=by omega
  rw [if_pos (by simp;omega),if_pos hrg]
  simp only [Int.toNat_natCast,wi (show j < 1000000000000 by omega)]
  by_cases k1:(t.getD j toZ).2.2.2.1=true
  ·have k1':(getD t j S50.dflt).2.2.2.1=true:=k1
   rw [if_pos k1',if_pos hrg]
   simp only [Option.bind_some]
   by_cases k2:Sh.eqb S36 (t.getD j toZ).2.2.2.2.2.1 (t.getD i toZ).2.2.1=true
   ·have k2':Sh.eqb S36 (getD t j S50.dflt).2.2.2.2.2.1 (t.getD i toZ).2.2.1=true:=k2
    rw [if_pos k2',if_pos hrg,if_pos (by rw [k1,k2];rfl)]
   ·have k2':¬ Sh.eqb S36 (getD t j S50.dflt).2.2.2.2.2.1 (t.getD i toZ).2.2.1=true:=k2
    rw [if_neg k2',if_neg (by rw [Bool.and_eq_true];exact fun q=>k2 q.2)]
  ·have k1':¬ (getD t j S50.dflt).2.2.2.1=true:=k1
   rw [if_neg k1']
   simp only [Option.bind_some]
   rw [if_neg (by decide),if_neg (by rw [Bool.and_eq_true];exact fun q=>k1 q.1)]
 ·simp only [F_congresslaw15_members_b1]
  rw [if_neg (by simp)]
theorem l_Safe {x:PlT} (h:okPl x) (hl:x.2.2.length≤maxLen):F_congresslaw15_ClusterSafe x=some true:=by
 unfold F_congresslaw15_ClusterSafe
 refine l_head h hl (fun t1=>(loopO (F_congresslaw15_ClusterSafe_b2 t1) 0).bind (Sum.elim some (fun j21=>some true))) fun n c t T=>?_
 have hlen:=T.len
 have:loopO (F_congresslaw15_ClusterSafe_b2 (c,t,true)) 0=some (.inr ()):=by
  refine loop_skip (N:=t.length) (mk:=fun (k:Nat)=>(k:Int)) (fun i hi=>?_) ?_
  ·simp only [F_congresslaw15_ClusterSafe_b2]
   rw [if_pos (by simp;omega),if_pos (by omega)]
   simp only [Int.toNat_natCast,wi (show i < 1000000000000 by omega)]
   by_cases hv:(t.getD i toZ).2.2.2.1=true
   ·have hv':(getD t i S50.dflt).2.2.2.1=true:=hv
    rw [if_pos hv']
   ·have hv':¬ (getD t i S50.dflt).2.2.2.1=true:=hv
    have oi:=told_ok T hi
    have oia:=oi.a
    obtain ⟨m,em,m8,w,I,ew,hT⟩:=f_members T hi
    have em':F_congresslaw15_members t (getD t i S50.dflt).2.2.1=some m:=em
    obtain ⟨r,er,rl,rg⟩:=f_Counts (t:=t.take (i + 1)) (fun y hy=>T.ok y (List.mem_of_mem_take hy)) (by rw [List.length_take];omega) (t.getD i toZ).1.toNat (t.getD i toZ).2.1 oi.c.ok
    rw [toI oia.1] at er
    have er':F_congressref15_Counts (drop 0 (take (i + 1) t)) (getD t i S50.dflt).1 (getD t i S50.dflt).2.1 (getD t i S50.dflt).2.2.1=some r:=by rw [List.drop_zero];exact er
    have hrb:∀ k,k < 8→0≤r.getD k 0∧r.getD k 0≤1350:=by
     intro k hk
     rw [rg k hk]
     have a:=Cn_nn ((t.take (i + 1)).map toM) (t.getD i toZ).1.toNat (t.getD i toZ).2.1 (rk (t.getD i toZ).2.2.1) k
     have b:=Cn_le ((t.take (i + 1)).map toM) (t.getD i toZ).1.toNat (t.getD i toZ).2.1 (rk (t.getD i toZ).2.2.1) k
     rw [List.length_map,List.length_take] at b
     omega
    obtain ⟨L,lb,eL,hL,hLk⟩:=f_Least9 m8 hrb
    rw [if_neg hv',em',Option.bind_some,if_pos ⟨by omega,by omega,by omega⟩,er',Option.bind_some,eL,Option.bind_some]
    have inner:loopO (F_congresslaw15_ClusterSafe_b3 (i:Int) (c,t,true) m (L,lb)) 0=some (.inr ()):=by
     refine loop_skip (N:=8) (mk:=fun (k:Nat)=>(k:Int)) (fun q hq=>?_) ?_
     ·simp only [F_congresslaw15_ClusterSafe_b3]
      have hrg:0≤(q:Int)∧(q:Int) < ((8:Nat):Int):=by omega
      rw [if_pos (by simp;omega),if_pos hrg]
      simp only [Int.toNat_natCast,wi (show q < 1000000000000 by omega)]
      obtain ⟨y,b,ey⟩:=f_next hlen (q:Int) (m.getD q 0) (t.getD i toZ).2.2.1
      have ey':F_congresslaw15_next t (q:Int) (getD m q 0) (getD t i S50.dflt).2.2.1=some (y,b):=ey
      rw [ey',Option.bind_some,if_pos hrg]
      by_cases k1:m.getD q 0=0
      ·rw [if_pos (by simpa using k1)]
       simp only [Option.bind_some]
       rw [if_pos trivial]
      ·rw [if_neg (by simpa using k1)]
       cases b with
       | false=>rfl
       | true =>
        rw [if_neg (by simp)]
        simp only [Option.bind_some]
        by_cases k2:L < 2
        ·rw [if_pos (by rw [decide_eq_true_eq];exact k2)]
        ·rw [if_neg (by rw [decide_eq_true_eq];exact k2),if_pos hrg]
         obtain ⟨s,es,sl,sg⟩:=f_Counts T.ok hlen q (m.getD q 0) oi.c.ok
         have es':F_congressref15_Counts t (q:Int) (getD m q 0) (getD t i S50.dflt).2.2.1=some s:=es
         rw [es',Option.bind_some,wr32 (by omega),wru (by omega)]
         have hfull:=f_Full (c:=s) (m:=m) m8 (r:=L - 1) (fun k hk hmk=>?_)
         ·rw [hfull];rfl
         ·rw [sg k hk]
          have a:=Cn_nn (t.map toM) q (m.getD q 0) (rk (t.getD i toZ).2.2.1) k
          have b:=Cn_le (t.map toM) q (m.getD q 0) (rk (t.getD i toZ).2.2.1) k
          rw [List.length_map] at b
          refine ⟨a,by omega,?_⟩
          have e1:w.told=(t.take (i + 1)).map toM++(t.drop (i + 1)).map toM:=by rw [ew,← List.map_append,List.take_append_drop]
          have ht:toM (t.getD i toZ) ∈ (t.take (i + 1)).map toM:=by
           refine List.mem_map.2 ⟨_,?_,rfl⟩
           rw [getD_lt hi,List.mem_take_iff_getElem]
           exact ⟨i,by omega,rfl⟩
          have hLq:=hLk q hq k1
          rw [rg q hq] at hLq
          have:=m_safe I e1 ht (m:=gt m) hT (L:=L) (by omega) (q:=q) k1 hLq k hmk
          rw [ew] at this
          exact this
     ·simp only [F_congresslaw15_ClusterSafe_b3]
      rw [if_neg (by simp)]
    rw [inner];rfl
  ·simp only [F_congresslaw15_ClusterSafe_b2]
   rw [if_neg (by simp)]
 rw [this];rfl
end Go.Proofs.YtjcbamenfaoffaaGreatDoor.Cl
