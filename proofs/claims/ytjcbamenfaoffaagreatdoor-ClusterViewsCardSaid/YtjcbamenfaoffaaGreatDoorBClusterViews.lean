/- Laws of my own that ClusterViews alone leans on. -/
import Derived.Test.YtjcbamenfaoffaaGreatDoorAA
set_option linter.unusedVariables false
set_option linter.unusedSimpArgs false
open List (length replicate getD drop take)
open Option.some (inj injEq)
open Int (toNat)
open Go.IntKind (wrap)
set_option maxRecDepth 100000
set_option linter.unusedVariables false
namespace Go.Proofs.YtjcbamenfaoffaaGreatDoor
open Go.RowKit
noncomputable def F_congresslaw15_ClusterViews_b4 (s2:Int) (t1:(S29.ty × (List S50.ty) × Bool)) (s4:Int):Option (Int ⊕ (Bool ⊕ Unit)) :=
 if (decide (s4 < s2))=true then if 0≤s4∧s4 < ((length t1.2.1:Nat):Int) then (show Option Bool from if (((((getD t1.2.1 (toNat s4) S50.dflt).2).2).2).1)=true then if (Sh.eqb S36 (((((((getD t1.2.1 (toNat s4) S50.dflt).2).2).2).2).2).1) (((((((getD t1.2.1 (toNat s2) S50.dflt).2).2).2).2).2).1))=true then if (!(Sh.eqb (.arr 8 (.int .u32)) (((((((getD t1.2.1 (toNat s4) S50.dflt).2).2).2).2).2).2) (((((((getD t1.2.1 (toNat s2) S50.dflt).2).2).2).2).2).2)))=true then some true else some (((getD t1.2.1 (toNat s4) S50.dflt).1) == ((getD t1.2.1 (toNat s2) S50.dflt).1)) else some false else some false).bind (fun r5=>if (r5)=true then some (Sum.inr (Sum.inl false)) else some (Sum.inl (wrap .i64 (s4 + 1)))) else none else some (Sum.inr (Sum.inr ()))
noncomputable def F_congresslaw15_ClusterViews_b2 (t1:(S29.ty × (List S50.ty) × Bool)) (s2:Int):Option (Int ⊕ (Bool ⊕ Unit)) :=
 if (decide (s2 < ((length t1.2.1:Nat):Int)))=true then if 0≤s2∧s2 < ((length t1.2.1:Nat):Int) then (if (!(((((getD t1.2.1 (toNat s2) S50.dflt).2).2).2).1))=true then some (Sum.inl (wrap .i64 (s2 + 1))) else (show Option Bool from if (decide (((getD t1.2.1 (toNat s2) S50.dflt).1) < 0))=true then some true else if (decide (((getD t1.2.1 (toNat s2) S50.dflt).1) > 7))=true then some true else if 0≤(bits .and .i64 ((getD t1.2.1 (toNat s2) S50.dflt).1) 7)∧(bits .and .i64 ((getD t1.2.1 (toNat s2) S50.dflt).1) 7) < ((8:Nat):Int) then (if ((getD (((((((getD t1.2.1 (toNat s2) S50.dflt).2).2).2).2).2).2) (toNat (bits .and .i64 ((getD t1.2.1 (toNat s2) S50.dflt).1) 7)) 0) != (((getD t1.2.1 (toNat s2) S50.dflt).2).1))=true then some true else some (Sh.eqb S36 (((((((getD t1.2.1 (toNat s2) S50.dflt).2).2).2).2).2).1) ((((getD t1.2.1 (toNat s2) S50.dflt).2).2).1))) else none).bind (fun r3=>if (r3)=true then some (Sum.inr (Sum.inl false)) else (loopO (F_congresslaw15_ClusterViews_b4 s2 t1) 0).bind (Sum.elim (fun y4=>some (Sum.inr (Sum.inl y4))) (fun j41=>some (Sum.inl (wrap .i64 (s2 + 1))))))) else none else some (Sum.inr (Sum.inr ()))
noncomputable def F_congresslaw15_ClusterViews (x0:S24.ty):Option Bool :=
 (F_congresslaw15_played x0).bind fun t1=>((show Option Bool from (F_congresslaw15_fixed ).bind fun t3=>(if (!t3)=true then some true else some (!t1.2.2))).bind (fun r1=>if (r1)=true then (F_congresslaw15_fixed ).bind fun t2=>(some t2) else (loopO (F_congresslaw15_ClusterViews_b2 t1) 0).bind (Sum.elim some (fun j21=>some true))))
theorem W_congresslaw15_ClusterViews {x0:S24.ty} {y:Bool} (hF0:F_congresslaw15_ClusterViews x0=some y):Pure Tryz.prog 3 [.v S24 x0] (vb y):=by
 unfold F_congresslaw15_ClusterViews at hF0
 refine pure_of_run @Tryz.call3 @Tryz.func3 rfl rfl fun w M ho=>?_
 refine sq rfl (rg [(1,.ptr 5000 [] 0)] [(5000,.var 24 S24 x0)] [] [] 5000 rfl (by kernel_rfl) c0 (sq rfl ?_))
 obtain ⟨t1,h1,hF0⟩:=obd hF0
 refine rg [(4,.v (.sl S50) t1.2.1),(5,vb t1.2.2)] [] [(1,⟨[.v S24],.tup [.v S29 t1.1,.v (.sl S50) t1.2.1,vb t1.2.2],none⟩)] [] 5001 rfl (by kernel_rfl) (cc (W_congresslaw15_played h1) c0) (sq rfl (sq rfl ?_))
 obtain ⟨r1,hF1,hF0⟩:=obd hF0
 refine run_cut (fun r1'=>r1=r1') (fun r1=>[(4,.v (.sl S50) t1.2.1),(21,vb r1)]) (fun r1=>[]) (fun r1' h2=>?_) (fun J1_0=>?_)
 ·subst h2
  refine run_if rfl rfl (fun h3=>?_) (fun h3=>?_)
  ·replace hF0:=ift h3 hF0
   refine sq rfl ?_
   obtain ⟨t2,h4,hF0⟩:=obd hF0
   refine rg [(2,vb t2)] [] [(0,⟨[],vb t2,none⟩)] [] 5000 rfl (by kernel_rfl) (cc (W_congresslaw15_fixed h4) c0) ?_
   obtain rfl:=inj hF0
   exact ret_pure (q:=[vb t2]) [.bool] rfl rfl (by kernel_rfl)
  ·replace hF0:=ifn h3 hF0
   refine sk rfl (sq rfl (sq rfl (rg [(4,.v (.sl S50) t1.2.1),(6,vi 0)] [] [] [] 5000 rfl (by kernel_rfl) c0 (bk rfl ?_))))
   obtain ⟨r2,hl2,hF0⟩:=obd hF0
   refine run_cutx 0 rfl (fun j21=>r2=Sum.inr j21) (fun j21=>[]) (fun j21=>[]) (fun j21 h5=>?_) (fun J2_1=>?_)
   ·subst h5
    replace hF0:=sumR hF0
    refine sq rfl (rg [(2,vb true)] [] [] [] 5000 rfl (by kernel_rfl) c0 ?_)
    obtain rfl:=inj hF0
    exact ret_pure (q:=[vb true]) [.bool] rfl rfl (by kernel_rfl)
   refine run_loop rfl (run_loopO hl2 (fun s2=>[(4,.v (.sl S50) t1.2.1),(6,vi s2)]) (fun s2=>[]) rfl rfl (fun s2 o2 hF1 ih2 hr2=>?_))
   unfold F_congresslaw15_ClusterViews_b2 at hF1
   refine run_again (sq rfl (sq rfl (rg [(4,.v (.sl S50) t1.2.1),(6,vi s2),(26,vb (decide (s2 < ((length t1.2.1:Nat):Int))))] [] [] [] 5000 rfl (by kernel_rfl) c0 ?_)))
   refine run_if rfl rfl (fun h6=>?_) (fun h6=>?_)
   ·replace hF1:=ift h6 hF1
    refine sk rfl (sq rfl (bk rfl (sq rfl ?_)))
    obtain ⟨h7,hF1⟩:=ifg hF1
    refine rg [(4,.v (.sl S50) t1.2.1),(6,vi s2),(7,.ptr 5080 [] 0)] [(5080,.var 50 S50 (getD t1.2.1 (toNat s2) S50.dflt))] [] [] 5000 rfl (by kernel_rfl) (cc h7 c0) (sq rfl (sq rfl (rg [(4,.v (.sl S50) t1.2.1),(6,vi s2),(7,.ptr 5080 [] 0),(36,vb (!(((((getD t1.2.1 (toNat s2) S50.dflt).2).2).2).1)))] [(5080,.var 50 S50 (getD t1.2.1 (toNat s2) S50.dflt))] [] [] 5081 rfl (by kernel_rfl) c0 ?_)))
    refine run_if rfl rfl (fun h8=>?_) (fun h8=>?_)
    ·replace hF1:=ift h8 hF1
     refine run_exit rfl rfl (rg [(4,.v (.sl S50) t1.2.1),(6,vi (wrap .i64 (s2 + 1)))] [] [] [] 5081 rfl (by kernel_rfl) c0 ?_)
     exact ih2 _ (inj hF1).symm
    ·replace hF1:=ifn h8 hF1
     refine sk rfl (sq rfl (sq rfl ?_))
     obtain ⟨r3,hF2,hF1⟩:=obd hF1
     refine run_cut (fun r3'=>r3=r3') (fun r3=>[(4,.v (.sl S50) t1.2.1),(6,vi s2),(7,.ptr 5080 [] 0),(64,vb r3)]) (fun r3=>[(5080,.var 50 S50 (getD t1.2.1 (toNat s2) S50.dflt))]) (fun r3' h9=>?_) (fun J3_0=>?_)
     ·subst h9
      refine run_if rfl rfl (fun h10=>?_) (fun h10=>?_)
      ·replace hF1:=ift h10 hF1
       refine sq rfl (rg [(2,vb false)] [] [] [] 5081 rfl (by kernel_rfl) c0 ?_)
       have e2:=inrI hr2 hF1
       subst e2
       replace hF0:=sumL hF0
       obtain rfl:=inj hF0
       exact ret_pure (q:=[vb false]) [.bool] rfl rfl (by kernel_rfl)
      ·replace hF1:=ifn h10 hF1
       refine sk rfl (sq rfl (rg [(4,.v (.sl S50) t1.2.1),(6,vi s2),(7,.ptr 5080 [] 0),(8,vi 0)] [(5080,.var 50 S50 (getD t1.2.1 (toNat s2) S50.dflt))] [] [] 5081 rfl (by kernel_rfl) c0 (bk rfl ?_)))
       obtain ⟨r4,hl4,hF1⟩:=obd hF1
       refine run_cutx 2 rfl (fun j41=>r4=Sum.inr j41) (fun j41=>[(4,.v (.sl S50) t1.2.1),(6,vi s2)]) (fun j41=>[]) (fun j41 h11=>?_) (fun J4_1=>?_)
       ·subst h11
        replace hF1:=sumR hF1
        refine eb (rg [(4,.v (.sl S50) t1.2.1),(6,vi (wrap .i64 (s2 + 1)))] [] [] [] 5000 rfl (by kernel_rfl) c0 ?_)
        exact ih2 _ (inj hF1).symm
       refine run_loop rfl (run_loopO hl4 (fun s4=>[(4,.v (.sl S50) t1.2.1),(6,vi s2),(7,.ptr 5080 [] 0),(8,vi s4)]) (fun s4=>[(5080,.var 50 S50 (getD t1.2.1 (toNat s2) S50.dflt))]) rfl rfl (fun s4 o4 hF2 ih4 hr4=>?_))
       unfold F_congresslaw15_ClusterViews_b4 at hF2
       refine run_again (sq rfl (sq rfl (rg [(4,.v (.sl S50) t1.2.1),(6,vi s2),(7,.ptr 5080 [] 0),(8,vi s4),(67,vb (decide (s4 < s2)))] [(5080,.var 50 S50 (getD t1.2.1 (toNat s2) S50.dflt))] [] [] 5081 rfl (by kernel_rfl) c0 ?_)))
       refine run_if rfl rfl (fun h12=>?_) (fun h12=>?_)
       ·replace hF2:=ift h12 hF2
        refine sk rfl (sq rfl (bk rfl (sq rfl ?_)))
        obtain ⟨h13,hF2⟩:=ifg hF2
        refine rg [(4,.v (.sl S50) t1.2.1),(6,vi s2),(7,.ptr 5080 [] 0),(8,vi s4),(9,.ptr 5161 [] 0)] [(5080,.var 50 S50 (getD t1.2.1 (toNat s2) S50.dflt)),(5161,.var 50 S50 (getD t1.2.1 (toNat s4) S50.dflt))] [] [] 5081 rfl (by kernel_rfl) (cc h13 c0) (sq rfl ?_)
        obtain ⟨r5,hF3,hF2⟩:=obd hF2
        refine run_cut (fun r5'=>r5=r5') (fun r5=>[(4,.v (.sl S50) t1.2.1),(6,vi s2),(7,.ptr 5080 [] 0),(8,vi s4),(101,vb r5)]) (fun r5=>[(5080,.var 50 S50 (getD t1.2.1 (toNat s2) S50.dflt))]) (fun r5' h14=>?_) (fun J5_0=>?_)
        ·subst h14
         refine run_if rfl rfl (fun h15=>?_) (fun h15=>?_)
         ·replace hF2:=ift h15 hF2
          refine sq rfl (rg [(2,vb false)] [] [] [] 5081 rfl (by kernel_rfl) c0 ?_)
          have e4:=inrI hr4 hF2
          subst e4
          replace hF1:=sumL hF1
          have e2:=inrI hr2 hF1
          subst e2
          replace hF0:=sumL hF0
          obtain rfl:=inj hF0
          exact ret_pure (q:=[vb false]) [.bool] rfl rfl (by kernel_rfl)
         ·replace hF2:=ifn h15 hF2
          refine sk rfl (eb (rg [(4,.v (.sl S50) t1.2.1),(6,vi s2),(7,.ptr 5080 [] 0),(8,vi (wrap .i64 (s4 + 1)))] [(5080,.var 50 S50 (getD t1.2.1 (toNat s2) S50.dflt))] [] [] 5081 rfl (by kernel_rfl) c0 ?_))
          exact ih4 _ (inj hF2).symm
        rcases Bool.eq_false_or_eq_true (((((getD t1.2.1 (toNat s4) S50.dflt).2).2).2).1) with h16 | h16
        ·replace hF3:=ift h16 hF3
         rcases Bool.eq_false_or_eq_true (Sh.eqb S36 (((((((getD t1.2.1 (toNat s4) S50.dflt).2).2).2).2).2).1) (((((((getD t1.2.1 (toNat s2) S50.dflt).2).2).2).2).2).1)) with h17 | h17
         ·replace hF3:=ift h17 hF3
          rcases Bool.eq_false_or_eq_true (!(Sh.eqb (.arr 8 (.int .u32)) (((((((getD t1.2.1 (toNat s4) S50.dflt).2).2).2).2).2).2) (((((((getD t1.2.1 (toNat s2) S50.dflt).2).2).2).2).2).2))) with h18 | h18
          ·replace hF3:=ift h18 hF3
           refine rg [(4,.v (.sl S50) t1.2.1),(6,vi s2),(7,.ptr 5080 [] 0),(8,vi s4),(101,vb true)] [(5080,.var 50 S50 (getD t1.2.1 (toNat s2) S50.dflt))] [] [(3,true),(12,true),(20,true)] 5162 rfl (by kernel_rfl) (cc h16 (cc h17 (cc h18 c0))) ?_
           exact J5_0 _ (inj hF3).symm
          ·replace hF3:=ifn h18 hF3
           refine rg [(4,.v (.sl S50) t1.2.1),(6,vi s2),(7,.ptr 5080 [] 0),(8,vi s4),(101,vb (((getD t1.2.1 (toNat s4) S50.dflt).1) == ((getD t1.2.1 (toNat s2) S50.dflt).1)))] [(5080,.var 50 S50 (getD t1.2.1 (toNat s2) S50.dflt))] [] [(3,true),(12,true),(20,false)] 5162 rfl (by kernel_rfl) (cc h16 (cc h17 (cc h18 c0))) ?_
           exact J5_0 _ (inj hF3).symm
         ·replace hF3:=ifn h17 hF3
          refine rg [(4,.v (.sl S50) t1.2.1),(6,vi s2),(7,.ptr 5080 [] 0),(8,vi s4),(101,vb false)] [(5080,.var 50 S50 (getD t1.2.1 (toNat s2) S50.dflt))] [] [(3,true),(12,false)] 5162 rfl (by kernel_rfl) (cc h16 (cc h17 c0)) ?_
          exact J5_0 _ (inj hF3).symm
        ·replace hF3:=ifn h16 hF3
         refine rg [(4,.v (.sl S50) t1.2.1),(6,vi s2),(7,.ptr 5080 [] 0),(8,vi s4),(101,vb false)] [(5080,.var 50 S50 (getD t1.2.1 (toNat s2) S50.dflt))] [] [(3,false)] 5162 rfl (by kernel_rfl) (cc h16 c0) ?_
         exact J5_0 _ (inj hF3).symm
       ·replace hF2:=ifn h12 hF2
        refine run_exit rfl rfl (tm (ρ':=[(4,.v (.sl S50) t1.2.1),(6,vi s2)]) (H':=[]) (by kernel_rfl) (by kernel_rfl) rfl ?_)
        exact J4_1 _ (inrI hr4 hF2).symm
     rcases Bool.eq_false_or_eq_true (decide (((getD t1.2.1 (toNat s2) S50.dflt).1) < 0)) with h19 | h19
     ·replace hF2:=ift h19 hF2
      refine rG [(4,.v (.sl S50) t1.2.1),(6,vi s2),(7,.ptr 5080 [] 0),(64,vb true)] [(5080,.var 50 S50 (getD t1.2.1 (toNat s2) S50.dflt))] [] [(3,true)] 5081 rfl rfl (by kernel_rfl) (cc h19 c0) ?_
      exact J3_0 _ (inj hF2).symm
     ·replace hF2:=ifn h19 hF2
      rcases Bool.eq_false_or_eq_true (decide (((getD t1.2.1 (toNat s2) S50.dflt).1) > 7)) with h20 | h20
      ·replace hF2:=ift h20 hF2
       refine rG [(4,.v (.sl S50) t1.2.1),(6,vi s2),(7,.ptr 5080 [] 0),(64,vb true)] [(5080,.var 50 S50 (getD t1.2.1 (toNat s2) S50.dflt))] [] [(3,false),(8,true)] 5081 rfl rfl (by kernel_rfl) (cc h19 (cc h20 c0)) ?_
       exact J3_0 _ (inj hF2).symm
      ·replace hF2:=ifn h20 hF2
       obtain ⟨h21,hF2⟩:=ifg hF2
       rcases Bool.eq_false_or_eq_true ((getD (((((((getD t1.2.1 (toNat s2) S50.dflt).2).2).2).2).2).2) (toNat (bits .and .i64 ((getD t1.2.1 (toNat s2) S50.dflt).1) 7)) 0) != (((getD t1.2.1 (toNat s2) S50.dflt).2).1)) with h22 | h22
       ·replace hF2:=ift h22 hF2
        refine rG [(4,.v (.sl S50) t1.2.1),(6,vi s2),(7,.ptr 5080 [] 0),(64,vb true)] [(5080,.var 50 S50 (getD t1.2.1 (toNat s2) S50.dflt))] [] [(3,false),(8,false),(20,true)] 5081 rfl rfl (by kernel_rfl) (cc h19 (cc h20 (cc h21 (cc (show offP S50 [.u,.r,.r,.r,.u,.r,.r,.r,.i (toNat (bits .and .i64 ((getD t1.2.1 (toNat s2) S50.dflt).1) 7))]=(47 + toNat (bits .and .i64 ((getD t1.2.1 (toNat s2) S50.dflt).1) 7) * 1) from offJ (p:=[.u,.r,.r,.r,.u,.r,.r,.r]) (q:=[]) rfl (by kernel_rfl) (by kernel_rfl) (by kernel_rfl)) (cc (oo h21 trivial) (cc h22 c0)))))) ?_
        exact J3_0 _ (inj hF2).symm
       ·replace hF2:=ifn h22 hF2
        refine rG [(4,.v (.sl S50) t1.2.1),(6,vi s2),(7,.ptr 5080 [] 0),(64,vb (Sh.eqb S36 (((((((getD t1.2.1 (toNat s2) S50.dflt).2).2).2).2).2).1) ((((getD t1.2.1 (toNat s2) S50.dflt).2).2).1)))] [(5080,.var 50 S50 (getD t1.2.1 (toNat s2) S50.dflt))] [] [(3,false),(8,false),(20,false)] 5081 rfl rfl (by kernel_rfl) (cc h19 (cc h20 (cc h21 (cc (show offP S50 [.u,.r,.r,.r,.u,.r,.r,.r,.i (toNat (bits .and .i64 ((getD t1.2.1 (toNat s2) S50.dflt).1) 7))]=(47 + toNat (bits .and .i64 ((getD t1.2.1 (toNat s2) S50.dflt).1) 7) * 1) from offJ (p:=[.u,.r,.r,.r,.u,.r,.r,.r]) (q:=[]) rfl (by kernel_rfl) (by kernel_rfl) (by kernel_rfl)) (cc (oo h21 trivial) (cc h22 c0)))))) ?_
        exact J3_0 _ (inj hF2).symm
   ·replace hF1:=ifn h6 hF1
    refine run_exit rfl rfl (tm (ρ':=[]) (H':=[]) (by kernel_rfl) (by kernel_rfl) rfl ?_)
    exact J2_1 _ (inrI hr2 hF1).symm
 obtain ⟨t3,h23,hF1⟩:=obd hF1
 rcases Bool.eq_false_or_eq_true (!t3) with h24 | h24
 ·replace hF1:=ift h24 hF1
  refine rg [(4,.v (.sl S50) t1.2.1),(21,vb true)] [] [(0,⟨[],vb t3,none⟩)] [(2,true)] 5000 rfl (by kernel_rfl) (cc (W_congresslaw15_fixed h23) (cc h24 c0)) ?_
  exact J1_0 _ (inj hF1).symm
 ·replace hF1:=ifn h24 hF1
  refine rg [(4,.v (.sl S50) t1.2.1),(21,vb (!t1.2.2))] [] [(0,⟨[],vb t3,none⟩)] [(2,false)] 5000 rfl (by kernel_rfl) (cc (W_congresslaw15_fixed h23) (cc h24 c0)) ?_
  exact J1_0 _ (inj hF1).symm
end Go.Proofs.YtjcbamenfaoffaaGreatDoor
set_option linter.unusedVariables false
set_option linter.unusedSimpArgs false
namespace Go.Proofs.YtjcbamenfaoffaaGreatDoor.Mo
section
variable {φ:Type} {n:Nat} {w:MW φ}
theorem good_at {l:List (MT φ)} (h:Good l):∀ (l1:List (MT φ)) (t:MT φ) (l2:List (MT φ)),l=l1++t :: l2→PQ l1 t:=by
 induction h with
 | nil=>intro l1 t l2 e;cases l1<;>cases e
 | @snoc l s h p ih =>
  intro l1 t l2 e
  rcases List.eq_nil_or_concat l2 with rfl | ⟨l3,x,rfl⟩
  ·have e2:l++[s]=l1++[t]:=e
   obtain ⟨e3,e4⟩:=List.append_inj' e2 rfl
   injection e4 with e4
   subst e3 e4
   exact p
  ·have e2:l++[s]=(l1++t :: l3)++[x]:=by rw [e];simp
   obtain ⟨e3,e4⟩:=List.append_inj' e2 rfl
   exact ih l1 t l3 e3
theorem m_views (I:InvM n w) {l1 l2:List (MT φ)} {t:MT φ} (e:w.told=l1++t :: l2) (hv:t.view=true) :
  t.who < n∧t.mem t.who=t.inc∧t.inn < t.conf∧∀ b ∈ l1,b.view=true→b.conf=t.conf→b.mem=t.mem∧b.who≠t.who:=by
 have ht:=I.l t (by rw [e];simp)
 obtain ⟨h1,h2,h3,_⟩:=ht.v1 hv
 refine ⟨ht.a,h2,h3,fun b hb bv bc=>⟨?_,(good_at I.q l1 t l2 e).v hv b hb bv bc⟩⟩
 have h4:=((I.l b (by rw [e];simp [hb])).v1 bv).1
 rw [bc,h1] at h4
 exact (inj h4).symm
end
end Go.Proofs.YtjcbamenfaoffaaGreatDoor.Mo
set_option linter.unusedVariables false
set_option linter.unusedSimpArgs false
namespace Go.Proofs.YtjcbamenfaoffaaGreatDoor.Cl
open Go.RowKit Go.IntWalk Mo
theorem and7 {x:Int} (h:0≤x∧x≤7):bits .and .i64 x 7=x:=by
 rcases (show x=0∨x=1∨x=2∨x=3∨x=4∨x=5∨x=6∨x=7 by omega) with rfl | rfl | rfl | rfl | rfl | rfl | rfl | rfl<;>decide
theorem gt_inj {a b:List Int} (ha:ok8 a) (hb:ok8 b) (h:gt a=gt b):a=b:=ext8 ha.1 hb.1 fun k _=>congrFun h k
theorem told_at {t:List ToT} {i:Nat} (hi:i < t.length):t.map toM=(t.take i).map toM++toM (t.getD i toZ) :: (t.drop (i + 1)).map toM:=by
 rw [getD_lt hi,← List.map_cons,← List.map_append]
 congr 1
 rw [← List.drop_eq_getElem_cons hi,List.take_append_drop]
theorem told_mem {t:List ToT} {i k:Nat} (hi:i < t.length) (hk:k < i):toM (t.getD k toZ) ∈ (t.take i).map toM:=by
 refine List.mem_map.2 ⟨t.getD k toZ,?_,rfl⟩
 rw [getD_lt (by omega)]
 rw [List.mem_take_iff_getElem]
 exact ⟨k,by omega,rfl⟩
theorem t_views {n:Nat} {t:List ToT} (h:Told n t) {i:Nat} (hi:i < t.length) (hv:(t.getD i toZ).2.2.2.1=true) :
  (t.getD i toZ).2.2.2.2.2.2.getD (t.getD i toZ).1.toNat 0=(t.getD i toZ).2.1∧(t.getD i toZ).2.2.2.2.2.1≠(t.getD i toZ).2.2.1 ∧
  ∀ k,k < i→(t.getD k toZ).2.2.2.1=true→(t.getD k toZ).2.2.2.2.2.1=(t.getD i toZ).2.2.2.2.2.1→(t.getD k toZ).2.2.2.2.2.2=(t.getD i toZ).2.2.2.2.2.2∧(t.getD k toZ).1≠(t.getD i toZ).1:=by
 obtain ⟨w,I,ew⟩:=h.w
 have e:=told_at hi
 rw [← ew] at e
 obtain ⟨h1,h2,h3,h4⟩:=m_views I e hv
 have hoi:=told_ok h hi
 refine ⟨h2,fun q=>?_,fun k hk kv kc=>?_⟩
 ·have h3:rk (t.getD i toZ).2.2.1 < rk (t.getD i toZ).2.2.2.2.2.1:=h3
  rw [q] at h3;omega
 ·have hok:=told_ok h (i:=k) (by omega)
  obtain ⟨a,b⟩:=h4 _ (told_mem hi hk) kv (by show rk _=rk _;rw [kc])
  refine ⟨gt_inj hok.d.m hoi.d.m a,fun q=>b ?_⟩
  show (t.getD k toZ).1.toNat=(t.getD i toZ).1.toNat
  rw [q]
end Go.Proofs.YtjcbamenfaoffaaGreatDoor.Cl
set_option linter.unusedVariables false
set_option linter.unusedSimpArgs false
namespace Go.Proofs.YtjcbamenfaoffaaGreatDoor.Cl
open Go.RowKit Go.IntWalk Mo
theorem l_Views {x:PlT} (h:okPl x) (hl:x.2.2.length≤maxLen):F_congresslaw15_ClusterViews x=some true:=by
 unfold F_congresslaw15_ClusterViews
 refine l_head h hl (fun t1=>(loopO (F_congresslaw15_ClusterViews_b2 t1) 0).bind (Sum.elim some (fun j21=>some true))) fun n c t T=>?_
 have hlen:=T.len
 have:loopO (F_congresslaw15_ClusterViews_b2 (c,t,true)) 0=some (.inr ()):=by
  refine loop_skip (N:=t.length) (mk:=fun (k:Nat)=>(k:Int)) (fun i hi=>?_) ?_
  ·simp only [F_congresslaw15_ClusterViews_b2]
   have ok:=told_ok T hi
   have oka:=ok.a
   rw [if_pos (by simp;omega),if_pos (by omega)]
   simp only [Int.toNat_natCast,wi (show i < 1000000000000 by omega)]
   by_cases hv:(t.getD i toZ).2.2.2.1=true
   ·obtain ⟨a,b,d⟩:=t_views T hi hv
    have hv':¬ (!(getD t i S50.dflt).2.2.2.1)=true:=by rw [show (getD t i S50.dflt).2.2.2.1=true from hv];decide
    have e7:bits .and .i64 (getD t i S50.dflt).1 7=(t.getD i toZ).1:=and7 oka
    have c1:¬ decide ((getD t i S50.dflt).1 < 0)=true:=by
     rw [decide_eq_true_eq]
     show ¬ (t.getD i toZ).1 < 0
     omega
    have c2:¬ decide ((getD t i S50.dflt).1 > 7)=true:=by
     rw [decide_eq_true_eq]
     show ¬ (t.getD i toZ).1 > 7
     omega
    have c3:¬ ((getD (getD t i S50.dflt).2.2.2.2.2.2 (toNat (t.getD i toZ).1) 0) != (getD t i S50.dflt).2.1)=true:=by simpa using a
    have c4:Sh.eqb S36 (getD t i S50.dflt).2.2.2.2.2.1 (getD t i S50.dflt).2.2.1=false:=by
     rw [Bool.eq_false_iff];exact fun q=>b (eqI.1 q)
    rw [if_neg hv',if_neg c1,if_neg c2,e7,if_pos (by omega),if_neg c3,c4]
    simp only [Option.bind_some]
    rw [if_neg (by decide)]
    have inner:loopO (F_congresslaw15_ClusterViews_b4 (i:Int) (c,t,true)) 0=some (.inr ()):=by
     refine loop_skip (N:=i) (mk:=fun (k:Nat)=>(k:Int)) (fun k hk=>?_) ?_
     ·simp only [F_congresslaw15_ClusterViews_b4]
      rw [if_pos (by simp;omega),if_pos (by omega)]
      simp only [Int.toNat_natCast,wi (show k < 1000000000000 by omega)]
      by_cases k1:(t.getD k toZ).2.2.2.1=true
      ·have k1':(getD t k S50.dflt).2.2.2.1=true:=k1
       rw [if_pos k1']
       by_cases k2:(t.getD k toZ).2.2.2.2.2.1=(t.getD i toZ).2.2.2.2.2.1
       ·obtain ⟨d1,d2⟩:=d k hk k1 k2
        have k2':Sh.eqb S36 (getD t k S50.dflt).2.2.2.2.2.1 (getD t i S50.dflt).2.2.2.2.2.1=true:=eqI.2 k2
        have k3':¬ (!(Sh.eqb (.arr 8 (.int .u32)) (getD t k S50.dflt).2.2.2.2.2.2 (getD t i S50.dflt).2.2.2.2.2.2))=true:=by
         rw [show Sh.eqb (.arr 8 (.int .u32)) (getD t k S50.dflt).2.2.2.2.2.2 (getD t i S50.dflt).2.2.2.2.2.2=true from eq8.2 d1];decide
        have k4':((getD t k S50.dflt).1 == (getD t i S50.dflt).1)=false:=by
         rw [beq_eq_false_iff_ne];exact d2
        rw [if_pos k2',if_neg k3',k4'];rfl
       ·have k2':¬ Sh.eqb S36 (getD t k S50.dflt).2.2.2.2.2.1 (getD t i S50.dflt).2.2.2.2.2.1=true:=fun q=>k2 (eqI.1 q)
        rw [if_neg k2'];rfl
      ·have k1':¬ (getD t k S50.dflt).2.2.2.1=true:=k1
       rw [if_neg k1'];rfl
     ·simp only [F_congresslaw15_ClusterViews_b4]
      rw [if_neg (by simp)]
    rw [inner];rfl
   ·have hv':(!(getD t i S50.dflt).2.2.2.1)=true:=by rw [show (getD t i S50.dflt).2.2.2.1=false by simpa using hv];decide
    rw [if_pos hv']
  ·simp only [F_congresslaw15_ClusterViews_b2]
   rw [if_neg (by simp)]
 rw [this];rfl
end Go.Proofs.YtjcbamenfaoffaaGreatDoor.Cl
