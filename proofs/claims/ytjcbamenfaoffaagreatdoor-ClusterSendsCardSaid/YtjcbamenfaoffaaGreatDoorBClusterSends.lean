/- Laws of my own that ClusterSends alone leans on. -/
import Derived.Test.YtjcbamenfaoffaaGreatDoorAA
set_option linter.unusedVariables false
set_option linter.unusedSimpArgs false
open List (length replicate getD drop take)
open Option.some (inj injEq)
open Int (toNat)
open Go.IntKind (wrap)
set_option maxRecDepth 100000
set_option linter.unusedVariables false
namespace Go.Proofs.YtjcbamenfaoffaaGreatDoor
open Go.RowKit
noncomputable def F_congresslaw15_ClusterSends_b3 (s2:Int) (t1:(S29.ty × (List S50.ty) × Bool)) (s3:(Bool × Int)):Option ((Bool × Int) ⊕ (Bool ⊕ Bool)) :=
 if (decide (s3.2 < s2))=true then if 0≤s3.2∧s3.2 < ((length t1.2.1:Nat):Int) then (show Option Bool from if (((((getD t1.2.1 (toNat s3.2) S50.dflt).2).2).2).1)=true then some true else if (!(Sh.eqb S36 ((((getD t1.2.1 (toNat s3.2) S50.dflt).2).2).1) ((((getD t1.2.1 (toNat s2) S50.dflt).2).2).1)))=true then some true else if ((((((((getD t1.2.1 (toNat s3.2) S50.dflt).2).2).2).2).1).1) != (((((((getD t1.2.1 (toNat s2) S50.dflt).2).2).2).2).1).1))=true then some true else some (((((((((getD t1.2.1 (toNat s3.2) S50.dflt).2).2).2).2).1).2).1) != ((((((((getD t1.2.1 (toNat s2) S50.dflt).2).2).2).2).1).2).1))).bind (fun r4=>if (r4)=true then some (Sum.inl (s3.1,wrap .i64 (s3.2 + 1))) else (show Option Bool from if (!(Sh.eqb (.arr 3 (.arr 2 S39)) ((((((((getD t1.2.1 (toNat s3.2) S50.dflt).2).2).2).2).1).2).2) ((((((((getD t1.2.1 (toNat s2) S50.dflt).2).2).2).2).1).2).2)))=true then some true else some (((getD t1.2.1 (toNat s3.2) S50.dflt).1) == ((getD t1.2.1 (toNat s2) S50.dflt).1))).bind (fun r5=>if (r5)=true then some (Sum.inr (Sum.inl false)) else (show Option Bool from if (s3.1)=true then some true else some (((getD t1.2.1 (toNat s3.2) S50.dflt).1) == (((((((getD t1.2.1 (toNat s2) S50.dflt).2).2).2).2).1).1))).bind (fun r6=>some (Sum.inl (r6,wrap .i64 (s3.2 + 1)))))) else none else some (Sum.inr (Sum.inr s3.1))
noncomputable def F_congresslaw15_ClusterSends_b2 (t1:(S29.ty × (List S50.ty) × Bool)) (s2:Int):Option (Int ⊕ (Bool ⊕ Unit)) :=
 if (decide (s2 < ((length t1.2.1:Nat):Int)))=true then if 0≤s2∧s2 < ((length t1.2.1:Nat):Int) then (if (((((getD t1.2.1 (toNat s2) S50.dflt).2).2).2).1)=true then some (Sum.inl (wrap .i64 (s2 + 1))) else (loopO (F_congresslaw15_ClusterSends_b3 s2 t1) (((getD t1.2.1 (toNat s2) S50.dflt).1) == (((((((getD t1.2.1 (toNat s2) S50.dflt).2).2).2).2).1).1),0)).bind (Sum.elim (fun y3=>some (Sum.inr (Sum.inl y3))) (fun j31=>if (!j31)=true then some (Sum.inr (Sum.inl false)) else some (Sum.inl (wrap .i64 (s2 + 1)))))) else none else some (Sum.inr (Sum.inr ()))
noncomputable def F_congresslaw15_ClusterSends (x0:S24.ty):Option Bool :=
 (F_congresslaw15_played x0).bind fun t1=>((show Option Bool from (F_congresslaw15_fixed ).bind fun t3=>(if (!t3)=true then some true else some (!t1.2.2))).bind (fun r1=>if (r1)=true then (F_congresslaw15_fixed ).bind fun t2=>(some t2) else (loopO (F_congresslaw15_ClusterSends_b2 t1) 0).bind (Sum.elim some (fun j21=>some true))))
theorem W_congresslaw15_ClusterSends {x0:S24.ty} {y:Bool} (hF0:F_congresslaw15_ClusterSends x0=some y):Pure Tryz.prog 4 [.v S24 x0] (vb y):=by
 unfold F_congresslaw15_ClusterSends at hF0
 refine pure_of_run @Tryz.call4 @Tryz.func4 rfl rfl fun w M ho=>?_
 refine sq rfl (rg [(1,.ptr 5000 [] 0)] [(5000,.var 24 S24 x0)] [] [] 5000 rfl (by kernel_rfl) c0 (sq rfl ?_))
 obtain ⟨t1,h1,hF0⟩:=obd hF0
 refine rg [(4,.v (.sl S50) t1.2.1),(5,vb t1.2.2)] [] [(1,⟨[.v S24],.tup [.v S29 t1.1,.v (.sl S50) t1.2.1,vb t1.2.2],none⟩)] [] 5001 rfl (by kernel_rfl) (cc (W_congresslaw15_played h1) c0) (sq rfl (sq rfl ?_))
 obtain ⟨r1,hF1,hF0⟩:=obd hF0
 refine run_cut (fun r1'=>r1=r1') (fun r1=>[(4,.v (.sl S50) t1.2.1),(22,vb r1)]) (fun r1=>[]) (fun r1' h2=>?_) (fun J1_0=>?_)
 ·subst h2
  refine run_if rfl rfl (fun h3=>?_) (fun h3=>?_)
  ·replace hF0:=ift h3 hF0
   refine sq rfl ?_
   obtain ⟨t2,h4,hF0⟩:=obd hF0
   refine rg [(2,vb t2)] [] [(0,⟨[],vb t2,none⟩)] [] 5000 rfl (by kernel_rfl) (cc (W_congresslaw15_fixed h4) c0) ?_
   obtain rfl:=inj hF0
   exact ret_pure (q:=[vb t2]) [.bool] rfl rfl (by kernel_rfl)
  ·replace hF0:=ifn h3 hF0
   refine sk rfl (sq rfl (sq rfl (rg [(4,.v (.sl S50) t1.2.1),(6,vi 0)] [] [] [] 5000 rfl (by kernel_rfl) c0 (bk rfl ?_))))
   obtain ⟨r2,hl2,hF0⟩:=obd hF0
   refine run_cutx 0 rfl (fun j21=>r2=Sum.inr j21) (fun j21=>[]) (fun j21=>[]) (fun j21 h5=>?_) (fun J2_1=>?_)
   ·subst h5
    replace hF0:=sumR hF0
    refine sq rfl (rg [(2,vb true)] [] [] [] 5000 rfl (by kernel_rfl) c0 ?_)
    obtain rfl:=inj hF0
    exact ret_pure (q:=[vb true]) [.bool] rfl rfl (by kernel_rfl)
   refine run_loop rfl (run_loopO hl2 (fun s2=>[(4,.v (.sl S50) t1.2.1),(6,vi s2)]) (fun s2=>[]) rfl rfl (fun s2 o2 hF1 ih2 hr2=>?_))
   unfold F_congresslaw15_ClusterSends_b2 at hF1
   refine run_again (sq rfl (sq rfl (rg [(4,.v (.sl S50) t1.2.1),(6,vi s2),(27,vb (decide (s2 < ((length t1.2.1:Nat):Int))))] [] [] [] 5000 rfl (by kernel_rfl) c0 ?_)))
   refine run_if rfl rfl (fun h6=>?_) (fun h6=>?_)
   ·replace hF1:=ift h6 hF1
    refine sk rfl (sq rfl (bk rfl (sq rfl ?_)))
    obtain ⟨h7,hF1⟩:=ifg hF1
    refine rg [(4,.v (.sl S50) t1.2.1),(6,vi s2),(7,.ptr 5080 [] 0)] [(5080,.var 50 S50 (getD t1.2.1 (toNat s2) S50.dflt))] [] [] 5000 rfl (by kernel_rfl) (cc h7 c0) (sq rfl (sq rfl (rg [(4,.v (.sl S50) t1.2.1),(6,vi s2),(7,.ptr 5080 [] 0),(36,vb (((((getD t1.2.1 (toNat s2) S50.dflt).2).2).2).1))] [(5080,.var 50 S50 (getD t1.2.1 (toNat s2) S50.dflt))] [] [] 5081 rfl (by kernel_rfl) c0 ?_)))
    refine run_if rfl rfl (fun h8=>?_) (fun h8=>?_)
    ·replace hF1:=ift h8 hF1
     refine run_exit rfl rfl (rg [(4,.v (.sl S50) t1.2.1),(6,vi (wrap .i64 (s2 + 1)))] [] [] [] 5081 rfl (by kernel_rfl) c0 ?_)
     exact ih2 _ (inj hF1).symm
    ·replace hF1:=ifn h8 hF1
     refine sk rfl (sq rfl (rg [(4,.v (.sl S50) t1.2.1),(6,vi s2),(7,.ptr 5080 [] 0),(8,vb (((getD t1.2.1 (toNat s2) S50.dflt).1) == (((((((getD t1.2.1 (toNat s2) S50.dflt).2).2).2).2).1).1)))] [(5080,.var 50 S50 (getD t1.2.1 (toNat s2) S50.dflt))] [] [] 5081 rfl (by kernel_rfl) c0 (sq rfl (sq rfl (rg [(4,.v (.sl S50) t1.2.1),(6,vi s2),(7,.ptr 5080 [] 0),(8,vb (((getD t1.2.1 (toNat s2) S50.dflt).1) == (((((((getD t1.2.1 (toNat s2) S50.dflt).2).2).2).2).1).1))),(9,vi 0)] [(5080,.var 50 S50 (getD t1.2.1 (toNat s2) S50.dflt))] [] [] 5081 rfl (by kernel_rfl) c0 (bk rfl ?_))))))
     obtain ⟨r3,hl3,hF1⟩:=obd hF1
     refine run_cutx 2 rfl (fun j31=>r3=Sum.inr j31) (fun j31=>[(4,.v (.sl S50) t1.2.1),(6,vi s2),(8,vb j31)]) (fun j31=>[]) (fun j31 h9=>?_) (fun J3_1=>?_)
     ·subst h9
      replace hF1:=sumR hF1
      refine sq rfl (rg [(4,.v (.sl S50) t1.2.1),(6,vi s2),(112,vb (!j31))] [] [] [] 5000 rfl (by kernel_rfl) c0 ?_)
      refine run_if rfl rfl (fun h10=>?_) (fun h10=>?_)
      ·replace hF1:=ift h10 hF1
       refine sq rfl (rg [(2,vb false)] [] [] [] 5000 rfl (by kernel_rfl) c0 ?_)
       have e2:=inrI hr2 hF1
       subst e2
       replace hF0:=sumL hF0
       obtain rfl:=inj hF0
       exact ret_pure (q:=[vb false]) [.bool] rfl rfl (by kernel_rfl)
      ·replace hF1:=ifn h10 hF1
       refine sk rfl (eb (rg [(4,.v (.sl S50) t1.2.1),(6,vi (wrap .i64 (s2 + 1)))] [] [] [] 5000 rfl (by kernel_rfl) c0 ?_))
       exact ih2 _ (inj hF1).symm
     refine run_loop rfl (run_loopO hl3 (fun s3=>[(4,.v (.sl S50) t1.2.1),(6,vi s2),(7,.ptr 5080 [] 0),(8,vb s3.1),(9,vi s3.2)]) (fun s3=>[(5080,.var 50 S50 (getD t1.2.1 (toNat s2) S50.dflt))]) rfl rfl (fun s3 o3 hF2 ih3 hr3=>?_))
     unfold F_congresslaw15_ClusterSends_b3 at hF2
     refine run_again (sq rfl (sq rfl (rg [(4,.v (.sl S50) t1.2.1),(6,vi s2),(7,.ptr 5080 [] 0),(8,vb s3.1),(9,vi s3.2),(46,vb (decide (s3.2 < s2)))] [(5080,.var 50 S50 (getD t1.2.1 (toNat s2) S50.dflt))] [] [] 5081 rfl (by kernel_rfl) c0 ?_)))
     refine run_if rfl rfl (fun h11=>?_) (fun h11=>?_)
     ·replace hF2:=ift h11 hF2
      refine sk rfl (sq rfl (bk rfl (sq rfl ?_)))
      obtain ⟨h12,hF2⟩:=ifg hF2
      refine rg [(4,.v (.sl S50) t1.2.1),(6,vi s2),(7,.ptr 5080 [] 0),(8,vb s3.1),(9,vi s3.2),(10,.ptr 5161 [] 0)] [(5080,.var 50 S50 (getD t1.2.1 (toNat s2) S50.dflt)),(5161,.var 50 S50 (getD t1.2.1 (toNat s3.2) S50.dflt))] [] [] 5081 rfl (by kernel_rfl) (cc h12 c0) (sq rfl (sq rfl ?_))
      obtain ⟨r4,hF3,hF2⟩:=obd hF2
      refine run_cut (fun r4'=>r4=r4') (fun r4=>[(4,.v (.sl S50) t1.2.1),(6,vi s2),(7,.ptr 5080 [] 0),(8,vb s3.1),(9,vi s3.2),(10,.ptr 5161 [] 0),(84,vb r4)]) (fun r4=>[(5080,.var 50 S50 (getD t1.2.1 (toNat s2) S50.dflt)),(5161,.var 50 S50 (getD t1.2.1 (toNat s3.2) S50.dflt))]) (fun r4' h13=>?_) (fun J4_0=>?_)
      ·subst h13
       refine run_if rfl rfl (fun h14=>?_) (fun h14=>?_)
       ·replace hF2:=ift h14 hF2
        refine run_exit rfl rfl (rg [(4,.v (.sl S50) t1.2.1),(6,vi s2),(7,.ptr 5080 [] 0),(8,vb s3.1),(9,vi (wrap .i64 (s3.2 + 1)))] [(5080,.var 50 S50 (getD t1.2.1 (toNat s2) S50.dflt))] [] [] 5162 rfl (by kernel_rfl) c0 ?_)
        exact ih3 _ (inj hF2).symm
       ·replace hF2:=ifn h14 hF2
        refine sk rfl (sq rfl (sq rfl ?_))
        obtain ⟨r5,hF3,hF2⟩:=obd hF2
        refine run_cut (fun r5'=>r5=r5') (fun r5=>[(4,.v (.sl S50) t1.2.1),(6,vi s2),(7,.ptr 5080 [] 0),(8,vb s3.1),(9,vi s3.2),(10,.ptr 5161 [] 0),(100,vb r5)]) (fun r5=>[(5080,.var 50 S50 (getD t1.2.1 (toNat s2) S50.dflt)),(5161,.var 50 S50 (getD t1.2.1 (toNat s3.2) S50.dflt))]) (fun r5' h15=>?_) (fun J5_0=>?_)
        ·subst h15
         refine run_if rfl rfl (fun h16=>?_) (fun h16=>?_)
         ·replace hF2:=ift h16 hF2
          refine sq rfl (rg [(2,vb false)] [] [] [] 5162 rfl (by kernel_rfl) c0 ?_)
          have e3:=inrI hr3 hF2
          subst e3
          replace hF1:=sumL hF1
          have e2:=inrI hr2 hF1
          subst e2
          replace hF0:=sumL hF0
          obtain rfl:=inj hF0
          exact ret_pure (q:=[vb false]) [.bool] rfl rfl (by kernel_rfl)
         ·replace hF2:=ifn h16 hF2
          refine sk rfl ?_
          obtain ⟨r6,hF3,hF2⟩:=obd hF2
          refine run_cut (fun r6'=>r6=r6') (fun r6=>[(4,.v (.sl S50) t1.2.1),(6,vi s2),(7,.ptr 5080 [] 0),(8,vb r6),(9,vi s3.2)]) (fun r6=>[(5080,.var 50 S50 (getD t1.2.1 (toNat s2) S50.dflt))]) (fun r6' h17=>?_) (fun J6_0=>?_)
          ·subst h17
           refine eb (rg [(4,.v (.sl S50) t1.2.1),(6,vi s2),(7,.ptr 5080 [] 0),(8,vb r6),(9,vi (wrap .i64 (s3.2 + 1)))] [(5080,.var 50 S50 (getD t1.2.1 (toNat s2) S50.dflt))] [] [] 5081 rfl (by kernel_rfl) c0 ?_)
           exact ih3 _ (inj hF2).symm
          rcases Bool.eq_false_or_eq_true (s3.1) with h18 | h18
          ·replace hF3:=ift h18 hF3
           refine rg [(4,.v (.sl S50) t1.2.1),(6,vi s2),(7,.ptr 5080 [] 0),(8,vb true),(9,vi s3.2)] [(5080,.var 50 S50 (getD t1.2.1 (toNat s2) S50.dflt))] [] [(1,true)] 5162 rfl (by kernel_rfl) (cc h18 c0) ?_
           exact J6_0 _ (inj hF3).symm
          ·replace hF3:=ifn h18 hF3
           refine rg [(4,.v (.sl S50) t1.2.1),(6,vi s2),(7,.ptr 5080 [] 0),(8,vb (((getD t1.2.1 (toNat s3.2) S50.dflt).1) == (((((((getD t1.2.1 (toNat s2) S50.dflt).2).2).2).2).1).1))),(9,vi s3.2)] [(5080,.var 50 S50 (getD t1.2.1 (toNat s2) S50.dflt))] [] [(1,false)] 5162 rfl (by kernel_rfl) (cc h18 c0) ?_
           exact J6_0 _ (inj hF3).symm
        rcases Bool.eq_false_or_eq_true (!(Sh.eqb (.arr 3 (.arr 2 S39)) ((((((((getD t1.2.1 (toNat s3.2) S50.dflt).2).2).2).2).1).2).2) ((((((((getD t1.2.1 (toNat s2) S50.dflt).2).2).2).2).1).2).2))) with h19 | h19
        ·replace hF3:=ift h19 hF3
         refine rg [(4,.v (.sl S50) t1.2.1),(6,vi s2),(7,.ptr 5080 [] 0),(8,vb s3.1),(9,vi s3.2),(10,.ptr 5161 [] 0),(100,vb true)] [(5080,.var 50 S50 (getD t1.2.1 (toNat s2) S50.dflt)),(5161,.var 50 S50 (getD t1.2.1 (toNat s3.2) S50.dflt))] [] [(9,true)] 5162 rfl (by kernel_rfl) (cc h19 c0) ?_
         exact J5_0 _ (inj hF3).symm
        ·replace hF3:=ifn h19 hF3
         refine rg [(4,.v (.sl S50) t1.2.1),(6,vi s2),(7,.ptr 5080 [] 0),(8,vb s3.1),(9,vi s3.2),(10,.ptr 5161 [] 0),(100,vb (((getD t1.2.1 (toNat s3.2) S50.dflt).1) == ((getD t1.2.1 (toNat s2) S50.dflt).1)))] [(5080,.var 50 S50 (getD t1.2.1 (toNat s2) S50.dflt)),(5161,.var 50 S50 (getD t1.2.1 (toNat s3.2) S50.dflt))] [] [(9,false)] 5162 rfl (by kernel_rfl) (cc h19 c0) ?_
         exact J5_0 _ (inj hF3).symm
      rcases Bool.eq_false_or_eq_true (((((getD t1.2.1 (toNat s3.2) S50.dflt).2).2).2).1) with h20 | h20
      ·replace hF3:=ift h20 hF3
       refine rg [(4,.v (.sl S50) t1.2.1),(6,vi s2),(7,.ptr 5080 [] 0),(8,vb s3.1),(9,vi s3.2),(10,.ptr 5161 [] 0),(84,vb true)] [(5080,.var 50 S50 (getD t1.2.1 (toNat s2) S50.dflt)),(5161,.var 50 S50 (getD t1.2.1 (toNat s3.2) S50.dflt))] [] [(3,true)] 5162 rfl (by kernel_rfl) (cc h20 c0) ?_
       exact J4_0 _ (inj hF3).symm
      ·replace hF3:=ifn h20 hF3
       rcases Bool.eq_false_or_eq_true (!(Sh.eqb S36 ((((getD t1.2.1 (toNat s3.2) S50.dflt).2).2).1) ((((getD t1.2.1 (toNat s2) S50.dflt).2).2).1))) with h21 | h21
       ·replace hF3:=ift h21 hF3
        refine rg [(4,.v (.sl S50) t1.2.1),(6,vi s2),(7,.ptr 5080 [] 0),(8,vb s3.1),(9,vi s3.2),(10,.ptr 5161 [] 0),(84,vb true)] [(5080,.var 50 S50 (getD t1.2.1 (toNat s2) S50.dflt)),(5161,.var 50 S50 (getD t1.2.1 (toNat s3.2) S50.dflt))] [] [(3,false),(10,true)] 5162 rfl (by kernel_rfl) (cc h20 (cc h21 c0)) ?_
        exact J4_0 _ (inj hF3).symm
       ·replace hF3:=ifn h21 hF3
        rcases Bool.eq_false_or_eq_true ((((((((getD t1.2.1 (toNat s3.2) S50.dflt).2).2).2).2).1).1) != (((((((getD t1.2.1 (toNat s2) S50.dflt).2).2).2).2).1).1)) with h22 | h22
        ·replace hF3:=ift h22 hF3
         refine rg [(4,.v (.sl S50) t1.2.1),(6,vi s2),(7,.ptr 5080 [] 0),(8,vb s3.1),(9,vi s3.2),(10,.ptr 5161 [] 0),(84,vb true)] [(5080,.var 50 S50 (getD t1.2.1 (toNat s2) S50.dflt)),(5161,.var 50 S50 (getD t1.2.1 (toNat s3.2) S50.dflt))] [] [(3,false),(10,false),(21,true)] 5162 rfl (by kernel_rfl) (cc h20 (cc h21 (cc h22 c0))) ?_
         exact J4_0 _ (inj hF3).symm
        ·replace hF3:=ifn h22 hF3
         refine rg [(4,.v (.sl S50) t1.2.1),(6,vi s2),(7,.ptr 5080 [] 0),(8,vb s3.1),(9,vi s3.2),(10,.ptr 5161 [] 0),(84,vb (((((((((getD t1.2.1 (toNat s3.2) S50.dflt).2).2).2).2).1).2).1) != ((((((((getD t1.2.1 (toNat s2) S50.dflt).2).2).2).2).1).2).1)))] [(5080,.var 50 S50 (getD t1.2.1 (toNat s2) S50.dflt)),(5161,.var 50 S50 (getD t1.2.1 (toNat s3.2) S50.dflt))] [] [(3,false),(10,false),(21,false)] 5162 rfl (by kernel_rfl) (cc h20 (cc h21 (cc h22 c0))) ?_
         exact J4_0 _ (inj hF3).symm
     ·replace hF2:=ifn h11 hF2
      refine run_exit rfl rfl (tm (ρ':=[(4,.v (.sl S50) t1.2.1),(6,vi s2),(8,vb s3.1)]) (H':=[]) (by kernel_rfl) (by kernel_rfl) rfl ?_)
      exact J3_1 _ (inrI hr3 hF2).symm
   ·replace hF1:=ifn h6 hF1
    refine run_exit rfl rfl (tm (ρ':=[]) (H':=[]) (by kernel_rfl) (by kernel_rfl) rfl ?_)
    exact J2_1 _ (inrI hr2 hF1).symm
 obtain ⟨t3,h23,hF1⟩:=obd hF1
 rcases Bool.eq_false_or_eq_true (!t3) with h24 | h24
 ·replace hF1:=ift h24 hF1
  refine rg [(4,.v (.sl S50) t1.2.1),(22,vb true)] [] [(0,⟨[],vb t3,none⟩)] [(2,true)] 5000 rfl (by kernel_rfl) (cc (W_congresslaw15_fixed h23) (cc h24 c0)) ?_
  exact J1_0 _ (inj hF1).symm
 ·replace hF1:=ifn h24 hF1
  refine rg [(4,.v (.sl S50) t1.2.1),(22,vb (!t1.2.2))] [] [(0,⟨[],vb t3,none⟩)] [(2,false)] 5000 rfl (by kernel_rfl) (cc (W_congresslaw15_fixed h23) (cc h24 c0)) ?_
  exact J1_0 _ (inj hF1).symm
end Go.Proofs.YtjcbamenfaoffaaGreatDoor
set_option linter.unusedVariables false
set_option linter.unusedSimpArgs false
namespace Go.Proofs.YtjcbamenfaoffaaGreatDoor.Mo
section
variable {φ:Type} {n:Nat} {w:MW φ}
theorem good_at {l:List (MT φ)} (h:Good l):∀ (l1:List (MT φ)) (t:MT φ) (l2:List (MT φ)),l=l1++t :: l2→PQ l1 t:=by
 induction h with
 | nil=>intro l1 t l2 e;cases l1<;>cases e
 | @snoc l s h p ih =>
  intro l1 t l2 e
  rcases List.eq_nil_or_concat l2 with rfl | ⟨l3,x,rfl⟩
  ·have e2:l++[s]=l1++[t]:=e
   obtain ⟨e3,e4⟩:=List.append_inj' e2 rfl
   injection e4 with e4
   subst e3 e4
   exact p
  ·have e2:l++[s]=(l1++t :: l3)++[x]:=by rw [e];simp
   obtain ⟨e3,e4⟩:=List.append_inj' e2 rfl
   exact ih l1 t l3 e3
theorem own_uniq (I:InvM n w) {C:Int} {k:Nat} {r:Int} {f f':φ} (h:Own w.told C k r f) (h':Own w.told C k r f'):f=f':=by
 obtain ⟨a,ha,a1,a2,a3,a4,a5,a6⟩:=h
 obtain ⟨b,hb,b1,b2,b3,b4,b5,b6⟩:=h'
 have key:∀ a b:MT φ,a ∈ w.told→b ∈ w.told→a.view=false→b.view=false→a.inn=C→b.inn=C→a.who=k→b.who=k→a.frm=k→b.frm=k→a.rnd=r→b.rnd=r→a=b:=by
  intro a b ha hb a1 b1 a2 b2 a3 b3 a4 b4 a5 b5
  obtain ⟨l1,l2,e⟩:=List.append_of_mem ha
  have hb':=hb
  rw [e,List.mem_append,List.mem_cons] at hb'
  rcases hb' with h | h | h
  ·exact absurd (b3.trans a3.symm) ((good_at I.q l1 a l2 e).q a1 b h b1 (b2.trans a2.symm) (b4.trans a4.symm) (b5.trans a5.symm))
  ·exact h.symm
  ·obtain ⟨l3,l4,e2⟩:=List.append_of_mem h
   exact absurd (a3.trans b3.symm) ((good_at I.q (l1++a :: l3) b l4 (by rw [e,e2];simp)).q b1 a (by simp) a1 (a2.trans b2.symm) (a4.trans b4.symm) (a5.trans b5.symm))
 have:=key a b ha hb a1 b1 a2 b2 a3 b3 a4 b4 a5 b5
 rw [← a6,← b6,this]
theorem m_sends (I:InvM n w) {l1 l2:List (MT φ)} {t:MT φ} (e:w.told=l1++t :: l2) (hv:t.view=false) :
  (t.who=t.frm∨∃ b ∈ l1,b.view=false∧b.inn=t.inn∧b.frm=t.frm∧b.rnd=t.rnd∧b.who=t.frm)∧∀ b ∈ l1,b.view=false→b.inn=t.inn→b.frm=t.frm→b.rnd=t.rnd→b.frame=t.frame∧b.who≠t.who:=by
 have ht:=I.l t (by rw [e];simp)
 have hq:=good_at I.q l1 t l2 e
 refine ⟨?_,fun b hb b1 b2 b3 b4=>⟨?_,hq.q hv b hb b1 b2 b3 b4⟩⟩
 ·by_cases h:t.who=t.frm
  ·exact .inl h
  ·obtain ⟨b,hb,b1,b2,b3,b4,b5⟩:=hq.o hv h
   exact .inr ⟨b,hb,b1,b2,b4,b5,b3⟩
 ·have hb':=((I.l b (by rw [e];simp [hb])).o b1).1
  rw [b2,b3,b4] at hb'
  exact own_uniq I hb' (ht.o hv).1
end
end Go.Proofs.YtjcbamenfaoffaaGreatDoor.Mo
set_option linter.unusedVariables false
set_option linter.unusedSimpArgs false
namespace Go.Proofs.YtjcbamenfaoffaaGreatDoor.Cl
open Go.RowKit Go.IntWalk Mo
theorem told_at {t:List ToT} {i:Nat} (hi:i < t.length):t.map toM=(t.take i).map toM++toM (t.getD i toZ) :: (t.drop (i + 1)).map toM:=by
 rw [getD_lt hi,← List.map_cons,← List.map_append]
 congr 1
 rw [← List.drop_eq_getElem_cons hi,List.take_append_drop]
theorem told_mem {t:List ToT} {i k:Nat} (hi:i < t.length) (hk:k < i):toM (t.getD k toZ) ∈ (t.take i).map toM:=by
 refine List.mem_map.2 ⟨t.getD k toZ,?_,rfl⟩
 rw [getD_lt (by omega)]
 rw [List.mem_take_iff_getElem]
 exact ⟨k,by omega,rfl⟩
theorem t_sends {n:Nat} {t:List ToT} (h:Told n t) {i:Nat} (hi:i < t.length) (hv:(t.getD i toZ).2.2.2.1=false) :
  ((t.getD i toZ).1=(t.getD i toZ).2.2.2.2.1.1∨∃ k,k < i∧(t.getD k toZ).2.2.2.1=false∧(t.getD k toZ).2.2.1=(t.getD i toZ).2.2.1∧(t.getD k toZ).2.2.2.2.1.1=(t.getD i toZ).2.2.2.2.1.1∧(t.getD k toZ).2.2.2.2.1.2.1=(t.getD i toZ).2.2.2.2.1.2.1∧(t.getD k toZ).1=(t.getD i toZ).2.2.2.2.1.1) ∧
  ∀ k,k < i→(t.getD k toZ).2.2.2.1=false→(t.getD k toZ).2.2.1=(t.getD i toZ).2.2.1→(t.getD k toZ).2.2.2.2.1.1=(t.getD i toZ).2.2.2.2.1.1→(t.getD k toZ).2.2.2.2.1.2.1=(t.getD i toZ).2.2.2.2.1.2.1→(t.getD k toZ).2.2.2.2.1.2.2=(t.getD i toZ).2.2.2.2.1.2.2∧(t.getD k toZ).1≠(t.getD i toZ).1:=by
 obtain ⟨w,I,ew⟩:=h.w
 have e:=told_at hi
 rw [← ew] at e
 obtain ⟨h1,h2⟩:=m_sends I e hv
 have hoi:=told_ok h hi
 have hoa:=hoi.a
 have hof:=hoi.d.k.a
 refine ⟨?_,fun k hk k1 k2 k3 k4=>?_⟩
 ·rcases h1 with h1 | ⟨b,hb,b1,b2,b3,b4,b5⟩
  ·left
   have h1:(t.getD i toZ).1.toNat=(t.getD i toZ).2.2.2.2.1.1.toNat:=h1
   omega
  ·right
   obtain ⟨x,hx,rfl⟩:=List.mem_map.1 hb
   obtain ⟨k,hk,ek⟩:=List.mem_take_iff_getElem.1 hx
   have hk':k < i:=by omega
   have ex:t.getD k toZ=x:=by rw [getD_lt (by omega)];exact ek
   have hok:=told_ok h (i:=k) (by omega)
   have hka:=hok.a
   have hkf:=hok.d.k.a
   rw [ex] at hok hka hkf
   refine ⟨k,hk',?_⟩
   rw [ex]
   have b2:rk x.2.2.1=rk (t.getD i toZ).2.2.1:=b2
   have b3:x.2.2.2.2.1.1.toNat=(t.getD i toZ).2.2.2.2.1.1.toNat:=b3
   have b5:x.1.toNat=(t.getD i toZ).2.2.2.2.1.1.toNat:=b5
   exact ⟨b1,rk_inj hok.c.ok hoi.c.ok b2,by omega,b4,by omega⟩
 ·obtain ⟨a,b⟩:=h2 _ (told_mem hi hk) k1 (by show rk _=rk _;rw [k2]) (by show toNat _=toNat _;rw [k3]) k4
  refine ⟨a,fun q=>b ?_⟩
  show (t.getD k toZ).1.toNat=(t.getD i toZ).1.toNat
  rw [q]
theorem eqF {a b:FrT}:Sh.eqb (.arr 3 (.arr 2 S39)) a b=true↔a=b:=eqb_iff (s:=.arr 3 (.arr 2 S39)) rfl a b
end Go.Proofs.YtjcbamenfaoffaaGreatDoor.Cl
set_option linter.unusedVariables false
set_option linter.unusedSimpArgs false
namespace Go.Proofs.YtjcbamenfaoffaaGreatDoor.Cl
open Go.RowKit Go.IntWalk Mo
theorem f_sendsLoop {n:Nat} {c:ClT} {t:List ToT} (T:Told n t) {i:Nat} (hi:i < t.length) (hv:(t.getD i toZ).2.2.2.1=false) {b0:Bool} (hb:b0=((t.getD i toZ).1 == (t.getD i toZ).2.2.2.2.1.1)) :
  ∃ b:Bool,loopO (F_congresslaw15_ClusterSends_b3 (i:Int) (c,t,true)) (b0,0)=some (.inr b)∧b=true:=by
 obtain ⟨a,d⟩:=t_sends T hi hv
 have hlen:=T.len
 have:=loop_for (N:=i) (mk:=fun (k:Nat) (s:Bool)=>(s,(k:Int))) (body:=F_congresslaw15_ClusterSends_b3 (i:Int) (c,t,true))
  (fun k s=>if (t.getD k toZ).2.2.2.1=false∧(t.getD k toZ).2.2.1=(t.getD i toZ).2.2.1∧(t.getD k toZ).2.2.2.2.1.1=(t.getD i toZ).2.2.2.2.1.1∧(t.getD k toZ).2.2.2.2.1.2.1=(t.getD i toZ).2.2.2.2.1.2.1 then (s || ((t.getD k toZ).1 == (t.getD i toZ).2.2.2.2.1.1)) else s) (fun s=>Sum.inr s)
  (fun k s=>(b0=true→s=true)∧∀ j,j < k→(t.getD j toZ).2.2.2.1=false∧(t.getD j toZ).2.2.1=(t.getD i toZ).2.2.1∧(t.getD j toZ).2.2.2.2.1.1=(t.getD i toZ).2.2.2.2.1.1∧(t.getD j toZ).2.2.2.2.1.2.1=(t.getD i toZ).2.2.2.2.1.2.1→(t.getD j toZ).1=(t.getD i toZ).2.2.2.2.1.1→s=true)
  (fun k s hk hs=>?_) (fun s _=>?_) (s:=b0) ⟨fun h=>h,fun j hj=>absurd hj (by omega)⟩
 ·obtain ⟨e,i1,i2⟩:=this
  have e:loopO (F_congresslaw15_ClusterSends_b3 (i:Int) (c,t,true)) (b0,0)=_:=e
  refine ⟨_,e,?_⟩
  rcases a with a | ⟨k,hk,a1,a2,a3,a4,a5⟩
  ·exact i1 (by rw [hb,a];simp)
  ·exact i2 k hk ⟨a1,a2,a3,a4⟩ a5
 ·refine ⟨?_,?_,?_⟩
  ·simp only [F_congresslaw15_ClusterSends_b3]
   rw [if_pos (by simp;omega),if_pos (by omega)]
   simp only [Int.toNat_natCast,wi (show k < 1000000000000 by omega)]
   by_cases k1:(t.getD k toZ).2.2.2.1=false
   ·have k1':¬ (getD t k S50.dflt).2.2.2.1=true:=by rw [show (getD t k S50.dflt).2.2.2.1=false from k1];decide
    rw [if_neg k1']
    by_cases k2:(t.getD k toZ).2.2.1=(t.getD i toZ).2.2.1
    ·have k2':¬ (!(Sh.eqb S36 (getD t k S50.dflt).2.2.1 (getD t i S50.dflt).2.2.1))=true:=by
      rw [show Sh.eqb S36 (getD t k S50.dflt).2.2.1 (getD t i S50.dflt).2.2.1=true from eqI.2 k2];decide
     rw [if_neg k2']
     by_cases k3:(t.getD k toZ).2.2.2.2.1.1=(t.getD i toZ).2.2.2.2.1.1
     ·have k3':¬ ((getD t k S50.dflt).2.2.2.2.1.1 != (getD t i S50.dflt).2.2.2.2.1.1)=true:=by simpa using k3
      rw [if_neg k3']
      simp only [Option.bind_some]
      by_cases k4:(t.getD k toZ).2.2.2.2.1.2.1=(t.getD i toZ).2.2.2.2.1.2.1
      ·have k4':¬ ((getD t k S50.dflt).2.2.2.2.1.2.1 != (getD t i S50.dflt).2.2.2.2.1.2.1)=true:=by simpa using k4
       obtain ⟨d1,d2⟩:=d k hk k1 k2 k3 k4
       have k5':¬ (!(Sh.eqb (.arr 3 (.arr 2 S39)) (getD t k S50.dflt).2.2.2.2.1.2.2 (getD t i S50.dflt).2.2.2.2.1.2.2))=true:=by
        rw [show Sh.eqb (.arr 3 (.arr 2 S39)) (getD t k S50.dflt).2.2.2.2.1.2.2 (getD t i S50.dflt).2.2.2.2.1.2.2=true from eqF.2 d1];decide
       have k6':¬ ((getD t k S50.dflt).1 == (getD t i S50.dflt).1)=true:=by
        rw [beq_iff_eq];exact d2
       rw [if_neg k4',if_neg k5']
       simp only [Option.bind_some]
       have hc:(t.getD k toZ).2.2.2.1=false∧(t.getD k toZ).2.2.1=(t.getD i toZ).2.2.1∧(t.getD k toZ).2.2.2.2.1.1=(t.getD i toZ).2.2.2.2.1.1∧(t.getD k toZ).2.2.2.2.1.2.1=(t.getD i toZ).2.2.2.2.1.2.1:=⟨k1,k2,k3,k4⟩
       rw [if_neg k6',if_pos hc]
       cases s<;>rfl
      ·have k4':((getD t k S50.dflt).2.2.2.2.1.2.1 != (getD t i S50.dflt).2.2.2.2.1.2.1)=true:=by simpa using k4
       rw [if_pos k4',if_neg (fun q=>k4 q.2.2.2)]
     ·have k3':((getD t k S50.dflt).2.2.2.2.1.1 != (getD t i S50.dflt).2.2.2.2.1.1)=true:=by simpa using k3
      rw [if_pos k3']
      simp only [Option.bind_some]
      rw [if_pos trivial,if_neg (fun q=>k3 q.2.2.1)]
    ·have k2':(!(Sh.eqb S36 (getD t k S50.dflt).2.2.1 (getD t i S50.dflt).2.2.1))=true:=by
      rw [show Sh.eqb S36 (getD t k S50.dflt).2.2.1 (getD t i S50.dflt).2.2.1=false from Bool.eq_false_iff.2 fun q=>k2 (eqI.1 q)];decide
     rw [if_pos k2']
     simp only [Option.bind_some]
     rw [if_pos trivial,if_neg (fun q=>k2 q.2.1)]
   ·have k1':(getD t k S50.dflt).2.2.2.1=true:=by simpa using k1
    rw [if_pos k1']
    simp only [Option.bind_some]
    rw [if_pos trivial,if_neg (fun q=>k1 q.1)]
  ·intro h
   split
   ·rw [hs.1 h];rfl
   ·exact hs.1 h
  ·intro j hj h1 h2
   by_cases e:j=k
   ·subst e
    rw [if_pos h1,h2];simp
   ·have:=hs.2 j (by omega) h1 h2
    split
    ·rw [this];rfl
    ·exact this
 ·simp only [F_congresslaw15_ClusterSends_b3]
  rw [if_neg (by simp)]
theorem l_Sends {x:PlT} (h:okPl x) (hl:x.2.2.length≤maxLen):F_congresslaw15_ClusterSends x=some true:=by
 unfold F_congresslaw15_ClusterSends
 refine l_head h hl (fun t1=>(loopO (F_congresslaw15_ClusterSends_b2 t1) 0).bind (Sum.elim some (fun j21=>some true))) fun n c t T=>?_
 have hlen:=T.len
 have:loopO (F_congresslaw15_ClusterSends_b2 (c,t,true)) 0=some (.inr ()):=by
  refine loop_skip (N:=t.length) (mk:=fun (k:Nat)=>(k:Int)) (fun i hi=>?_) ?_
  ·simp only [F_congresslaw15_ClusterSends_b2]
   rw [if_pos (by simp;omega),if_pos (by omega)]
   simp only [Int.toNat_natCast,wi (show i < 1000000000000 by omega)]
   by_cases hv:(t.getD i toZ).2.2.2.1=true
   ·have hv':(getD t i S50.dflt).2.2.2.1=true:=hv
    rw [if_pos hv']
   ·have hv':¬ (getD t i S50.dflt).2.2.2.1=true:=hv
    obtain ⟨b,e,hb⟩:=f_sendsLoop (c:=c) T hi (by simpa using hv) (b0:=((getD t i S50.dflt).1 == (getD t i S50.dflt).2.2.2.2.1.1)) rfl
    subst hb
    rw [if_neg hv',e];rfl
  ·simp only [F_congresslaw15_ClusterSends_b2]
   rw [if_neg (by simp)]
 rw [this];rfl
end Go.Proofs.YtjcbamenfaoffaaGreatDoor.Cl
