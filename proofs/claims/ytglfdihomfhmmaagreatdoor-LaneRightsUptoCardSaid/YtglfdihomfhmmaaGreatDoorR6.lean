/- Laws of my own that the statement leans on; part R6. -/
import Derived.Test.YtglfdihomfhmmaaGreatDoorR5
set_option linter.unusedVariables false
set_option linter.unusedSimpArgs false
open List (length replicate getD drop take)
open Option.some (inj injEq)
open Int (toNat)
open Go.IntKind (wrap)
set_option maxRecDepth 100000
namespace Go.Proofs.YtglfdihomfhmmaaGreatDoor
open Go.RowKit
noncomputable def F_cmp_Less_uint64 (x0:Int) (x1:Int):Option Bool :=
 (show Option Bool from (F_cmp_isNaN_uint64 x0).bind fun t1=>(if (t1)=true then (F_cmp_isNaN_uint64 x1).bind fun t2=>(if (!t2)=true then some true else some (decide (x0<x1))) else some (decide (x0<x1)))).bind (fun r1=>some r1)
theorem W_cmp_Less_uint64 {x0:Int} {x1:Int} {y:Bool} (F0:F_cmp_Less_uint64 x0 x1=some y):Pure Tryz.prog 239 [vu x0,vu x1] (vb y):=by
 unfold F_cmp_Less_uint64 at F0
 refine pure_of_run @Tryz.call239 @Tryz.func239 rfl rfl fun w M ho=>?_
 obtain ⟨r1,F1,F0⟩:=obd F0
 refine sq rfl (rB [(0,vu x0),(1,vu x1)] [] 5000 rfl c0 (sq rfl ?_))
 refine run_cut (fun r1'=>r1=r1') (fun r1=>[(4,vb r1)]) (fun r1=>[]) (fun r1' h1=>?_) (fun J1_0=>?_)
 ·subst h1
  obtain rfl:=inj F0
  exact ret_pure (q:=[vb r1]) [.bool] rfl rfl (by kernel_rfl)
 obtain ⟨t1,h2,F1⟩:=obd F1
 rcases Bool.eq_false_or_eq_true (t1) with h3|h3
 ·replace F1:=ift h3 F1
  obtain ⟨t2,h4,F1⟩:=obd F1
  rcases Bool.eq_false_or_eq_true (!t2) with h5|h5
  ·replace F1:=ift h5 F1
   refine rA [(4,vb true)] [] [(1,⟨[.v (.int .u64)],vb t1,none⟩),(4,⟨[.v (.int .u64)],vb t2,none⟩)] [(2,true),(7,true)] 5000 rfl (cc (W_cmp_isNaN_uint64 h2) (cc h3 (cc (W_cmp_isNaN_uint64 h4) (cc h5 c0)))) ?_
   exact J1_0 _ (inj F1).symm
  ·replace F1:=ifn h5 F1
   refine rA [(4,vb (decide (x0<x1)))] [] [(1,⟨[.v (.int .u64)],vb t1,none⟩),(4,⟨[.v (.int .u64)],vb t2,none⟩)] [(2,true),(7,false)] 5000 rfl (cc (W_cmp_isNaN_uint64 h2) (cc h3 (cc (W_cmp_isNaN_uint64 h4) (cc h5 c0)))) ?_
   exact J1_0 _ (inj F1).symm
 ·replace F1:=ifn h3 F1
  refine rA [(4,vb (decide (x0<x1)))] [] [(1,⟨[.v (.int .u64)],vb t1,none⟩)] [(2,false)] 5000 rfl (cc (W_cmp_isNaN_uint64 h2) (cc h3 c0)) ?_
  exact J1_0 _ (inj F1).symm
noncomputable def F_slices_insertionSortOrdered_uint64_b2 (x1:Int) (s2:(Int×(List Int))):Option ((Int×(List Int))⊕(List Int)) :=
 (show Option Bool from if (decide (s2.1>x1))=true then if 0≤s2.1∧s2.1<((length s2.2:Nat):Int) then (if 0≤(wrap .i64 (s2.1-1))∧(wrap .i64 (s2.1-1))<((length s2.2:Nat):Int) then (F_cmp_Less_uint64 (getD s2.2 (toNat s2.1) 0) (getD s2.2 (toNat (wrap .i64 (s2.1-1))) 0)).bind fun t1=>(some t1) else none) else none else some false).bind (fun r3=>if (r3)=true then if 0≤(wrap .i64 (s2.1-1))∧(wrap .i64 (s2.1-1))<((length s2.2:Nat):Int) then (if 0≤s2.1∧s2.1<((length s2.2:Nat):Int) then (if 0≤s2.1∧s2.1<((length s2.2:Nat):Int) then (if 0≤(wrap .i64 (s2.1-1))∧(wrap .i64 (s2.1-1))<((length (List.set s2.2 (toNat s2.1) (getD s2.2 (toNat (wrap .i64 (s2.1-1))) 0)):Nat):Int) then (some (Sum.inl (wrap .i64 (s2.1-1),List.set (List.set s2.2 (toNat s2.1) (getD s2.2 (toNat (wrap .i64 (s2.1-1))) 0)) (toNat (wrap .i64 (s2.1-1))) (getD s2.2 (toNat s2.1) 0)))) else none) else none) else none) else none else some (Sum.inr s2.2))
noncomputable def F_slices_insertionSortOrdered_uint64_b1 (x1:Int) (x2:Int) (s1:(Int×(List Int))):Option ((Int×(List Int))⊕(List Int)) :=
 if (decide (s1.1<x2))=true then (loopO (F_slices_insertionSortOrdered_uint64_b2 x1) (s1.1,s1.2)).bind (fun r2=>some (Sum.inl (wrap .i64 (s1.1+1),r2))) else some (Sum.inr s1.2)
noncomputable def F_slices_insertionSortOrdered_uint64 (x0:(List Int)) (x1:Int) (x2:Int):Option (List Int) :=
 (loopO (F_slices_insertionSortOrdered_uint64_b1 x1 x2) (wrap .i64 (x1+1),x0)).bind (fun r1=>some r1)
theorem W_slices_insertionSortOrdered_uint64 {x0:(List Int)} {x1:Int} {x2:Int} {y:(List Int)} (F0:F_slices_insertionSortOrdered_uint64 x0 x1 x2=some y):Mut Tryz.prog 233 1 [.row 0,vi x1,vi x2] [(0,.row 23 (.int .u64) x0)] (.tup []) [(0,.row 23 (.int .u64) y)]:=by
 unfold F_slices_insertionSortOrdered_uint64 at F0
 refine mut_of_run @Tryz.call233 @Tryz.func233 rfl rfl fun b=>?_
 obtain ⟨r1,hl1,F0⟩:=obd F0
 refine sq rfl (rB [(0,.row 0),(1,vi x1),(2,vi x2),(6,vi (wrap .i64 (x1+1)))] [(0,.row 23 (.int .u64) x0)] 5000 rfl c0 (bk rfl ?_))
 refine run_cutx 0 rfl (fun r1'=>r1=r1') (fun r1=>[]) (fun r1=>[(0,.row 23 (.int .u64) r1)]) (fun r1' h1=>?_) (fun J1_0=>?_)
 ·subst h1
  obtain rfl:=inj F0
  exact fall_mut (q:=[]) [] [0] rfl (by kernel_rfl) rfl (by kernel_rfl)
 refine run_loop rfl (run_loopO hl1 (fun s1=>[(0,.row 0),(1,vi x1),(2,vi x2),(6,vi s1.1)]) (fun s1=>[(0,.row 23 (.int .u64) s1.2)]) rfl rfl (fun s1 o1 F1 ih1 hr1=>?_))
 unfold F_slices_insertionSortOrdered_uint64_b1 at F1
 refine run_again (sq rfl (sq rfl (rB [(0,.row 0),(1,vi x1),(2,vi x2),(6,vi s1.1),(12,vb (decide (s1.1<x2)))] [(0,.row 23 (.int .u64) s1.2)] 5000 rfl c0 ?_)))
 refine run_if rfl rfl (fun h2=>?_) (fun h2=>?_)
 ·replace F1:=ift h2 F1
  obtain ⟨r2,hl2,F1⟩:=obd F1
  refine sk rfl (sq rfl (bk rfl (sq rfl (rB [(0,.row 0),(1,vi x1),(2,vi x2),(6,vi s1.1),(7,vi s1.1)] [(0,.row 23 (.int .u64) s1.2)] 5000 rfl c0 (bk rfl ?_)))))
  refine run_cutx 2 rfl (fun r2'=>r2=r2') (fun r2=>[(0,.row 0),(1,vi x1),(2,vi x2),(6,vi s1.1)]) (fun r2=>[(0,.row 23 (.int .u64) r2)]) (fun r2' h3=>?_) (fun J2_0=>?_)
  ·subst h3
   refine eb (rB [(0,.row 0),(1,vi x1),(2,vi x2),(6,vi (wrap .i64 (s1.1+1)))] [(0,.row 23 (.int .u64) r2)] 5000 rfl c0 ?_)
   exact ih1 _ (inj F1).symm
  refine run_loop rfl (run_loopO hl2 (fun s2=>[(0,.row 0),(1,vi x1),(2,vi x2),(6,vi s1.1),(7,vi s2.1)]) (fun s2=>[(0,.row 23 (.int .u64) s2.2)]) rfl rfl (fun s2 o2 F2 ih2 hr2=>?_))
  unfold F_slices_insertionSortOrdered_uint64_b2 at F2
  refine run_again ?_
  obtain ⟨r3,F3,F2⟩:=obd F2
  refine sq rfl (sq rfl ?_)
  refine run_cut (fun r3'=>r3=r3') (fun r3=>[(0,.row 0),(1,vi x1),(2,vi x2),(6,vi s1.1),(7,vi s2.1),(30,vb r3)]) (fun r3=>[(0,.row 23 (.int .u64) s2.2)]) (fun r3' h4=>?_) (fun J3_0=>?_)
  ·subst h4
   refine run_if rfl rfl (fun h5=>?_) (fun h5=>?_)
   ·replace F2:=ift h5 F2
    obtain ⟨h6,F2⟩:=ifg F2
    obtain ⟨h7,F2⟩:=ifg F2
    obtain ⟨h8,F2⟩:=ifg F2
    obtain ⟨h9,F2⟩:=ifg F2
    refine sk rfl (sq rfl (bk rfl ?_))
    refine sE (gE [0,1,2,6,7] [0] [] [] 5000 rfl rfl (eE (oE [0,1,2,6,7] [0] 5000 rfl (fA [(0,.row 0),(1,vi x1),(2,vi x2),(6,vi s1.1),(7,vi (wrap .i64 (s2.1-1)))] [(0,.row 23 (.int .u64) (List.set (List.set s2.2 (toNat s2.1) (getD s2.2 (toNat (wrap .i64 (s2.1-1))) 0)) (toNat (wrap .i64 (s2.1-1))) (getD s2.2 (toNat s2.1) 0)))] (cc h6 (cc (@rfl Nat (toNat (wrap .i64 (s2.1-1))*1)) (cc (oo h6 trivial) (cc h7 (cc (@rfl Nat (toNat s2.1*1)) (cc (oo h7 trivial) (cc h8 (cc (@rfl Nat (toNat s2.1*1)) (cc (oo h8 trivial) (cc h9 (cc (@rfl Nat (toNat (wrap .i64 (s2.1-1))*1)) (cc (oo h9 trivial) c0)))))))))))) ?_))))
    exact ih2 _ (inj F2).symm
   ·replace F2:=ifn h5 F2
    refine run_exit rfl rfl (tm (ρ':=[(0,.row 0),(1,vi x1),(2,vi x2),(6,vi s1.1)]) (H':=[(0,.row 23 (.int .u64) s2.2)]) (by kernel_rfl) (by kernel_rfl) rfl ?_)
    exact J2_0 _ (inrI hr2 F2).symm
  rcases Bool.eq_false_or_eq_true (decide (s2.1>x1)) with h10|h10
  ·replace F3:=ift h10 F3
   obtain ⟨h11,F3⟩:=ifg F3
   obtain ⟨h12,F3⟩:=ifg F3
   obtain ⟨t1,h13,F3⟩:=obd F3
   refine rC [(0,.row 0),(1,vi x1),(2,vi x2),(6,vi s1.1),(7,vi s2.1),(30,vb t1)] [(0,.row 23 (.int .u64) s2.2)] [(13,⟨[.v (.int .u64),.v (.int .u64)],vb t1,none⟩)] [(3,true)] 5000 rfl (cc h10 (cc h11 (cc (@rfl Nat (toNat s2.1*1)) (cc (oo h11 trivial) (cc h12 (cc (@rfl Nat (toNat (wrap .i64 (s2.1-1))*1)) (cc (oo h12 trivial) (cc (W_cmp_Less_uint64 h13) c0)))))))) ?_
   exact J3_0 _ (inj F3).symm
  ·replace F3:=ifn h10 F3
   refine rC [(0,.row 0),(1,vi x1),(2,vi x2),(6,vi s1.1),(7,vi s2.1),(30,vb false)] [(0,.row 23 (.int .u64) s2.2)] [] [(3,false)] 5000 rfl (cc h10 c0) ?_
   exact J3_0 _ (inj F3).symm
 ·replace F1:=ifn h2 F1
  refine run_exit rfl rfl (tm (ρ':=[]) (H':=[(0,.row 23 (.int .u64) s1.2)]) (by kernel_rfl) (by kernel_rfl) rfl ?_)
  exact J1_0 _ (inrI hr1 F1).symm
noncomputable def F_slices_siftDownOrdered_uint64_b1 (x2:Int) (x3:Int) (s1:(Int×(List Int))):Option ((Int×(List Int))⊕((List Int)⊕(List Int))) :=
 if (decide ((wrap .i64 ((wrap .i64 ((2:Int)*s1.1))+1))≥x2))=true then some (Sum.inr (Sum.inl s1.2)) else (show Option Bool from if (decide ((wrap .i64 ((wrap .i64 ((wrap .i64 ((2:Int)*s1.1))+1))+1))<x2))=true then if 0≤(wrap .i64 (x3+(wrap .i64 ((wrap .i64 ((2:Int)*s1.1))+1))))∧(wrap .i64 (x3+(wrap .i64 ((wrap .i64 ((2:Int)*s1.1))+1))))<((length s1.2:Nat):Int) then (if 0≤(wrap .i64 ((wrap .i64 (x3+(wrap .i64 ((wrap .i64 ((2:Int)*s1.1))+1))))+1))∧(wrap .i64 ((wrap .i64 (x3+(wrap .i64 ((wrap .i64 ((2:Int)*s1.1))+1))))+1))<((length s1.2:Nat):Int) then (F_cmp_Less_uint64 (getD s1.2 (toNat (wrap .i64 (x3+(wrap .i64 ((wrap .i64 ((2:Int)*s1.1))+1))))) 0) (getD s1.2 (toNat (wrap .i64 ((wrap .i64 (x3+(wrap .i64 ((wrap .i64 ((2:Int)*s1.1))+1))))+1))) 0)).bind fun t2=>(some t2) else none) else none else some false).bind (fun r2=>(show Option Int from if (r2)=true then some (wrap .i64 ((wrap .i64 ((wrap .i64 ((2:Int)*s1.1))+1))+1)) else some (wrap .i64 ((wrap .i64 ((2:Int)*s1.1))+1))).bind (fun r3=>if 0≤(wrap .i64 (x3+s1.1))∧(wrap .i64 (x3+s1.1))<((length s1.2:Nat):Int) then (if 0≤(wrap .i64 (x3+r3))∧(wrap .i64 (x3+r3))<((length s1.2:Nat):Int) then (F_cmp_Less_uint64 (getD s1.2 (toNat (wrap .i64 (x3+s1.1))) 0) (getD s1.2 (toNat (wrap .i64 (x3+r3))) 0)).bind fun t1=>(if (!t1)=true then some (Sum.inr (Sum.inr s1.2)) else if 0≤(wrap .i64 (x3+r3))∧(wrap .i64 (x3+r3))<((length s1.2:Nat):Int) then (if 0≤(wrap .i64 (x3+s1.1))∧(wrap .i64 (x3+s1.1))<((length s1.2:Nat):Int) then (if 0≤(wrap .i64 (x3+s1.1))∧(wrap .i64 (x3+s1.1))<((length s1.2:Nat):Int) then (if 0≤(wrap .i64 (x3+r3))∧(wrap .i64 (x3+r3))<((length (List.set s1.2 (toNat (wrap .i64 (x3+s1.1))) (getD s1.2 (toNat (wrap .i64 (x3+r3))) 0)):Nat):Int) then (some (Sum.inl (r3,List.set (List.set s1.2 (toNat (wrap .i64 (x3+s1.1))) (getD s1.2 (toNat (wrap .i64 (x3+r3))) 0)) (toNat (wrap .i64 (x3+r3))) (getD s1.2 (toNat (wrap .i64 (x3+s1.1))) 0)))) else none) else none) else none) else none) else none) else none))
noncomputable def F_slices_siftDownOrdered_uint64 (x0:(List Int)) (x1:Int) (x2:Int) (x3:Int):Option (List Int) :=
 (loopO (F_slices_siftDownOrdered_uint64_b1 x2 x3) (x1,x0)).bind (Sum.elim (fun j10=>some j10) some)
theorem W_slices_siftDownOrdered_uint64 {x0:(List Int)} {x1:Int} {x2:Int} {x3:Int} {y:(List Int)} (F0:F_slices_siftDownOrdered_uint64 x0 x1 x2 x3=some y):Mut Tryz.prog 253 1 [.row 0,vi x1,vi x2,vi x3] [(0,.row 23 (.int .u64) x0)] (.tup []) [(0,.row 23 (.int .u64) y)]:=by
 unfold F_slices_siftDownOrdered_uint64 at F0
 refine mut_of_run @Tryz.call253 @Tryz.func253 rfl rfl fun b=>?_
 obtain ⟨r1,hl1,F0⟩:=obd F0
 refine sq rfl (rB [(0,.row 0),(2,vi x2),(3,vi x3),(8,vi x1)] [(0,.row 23 (.int .u64) x0)] 5000 rfl c0 (bk rfl ?_))
 refine run_cutx 0 rfl (fun j10=>r1=Sum.inl j10) (fun j10=>[]) (fun j10=>[(0,.row 23 (.int .u64) j10)]) (fun j10 h1=>?_) (fun J1_0=>?_)
 ·subst h1
  replace F0:=sumL F0
  obtain rfl:=inj F0
  exact fall_mut (q:=[]) [] [0] rfl (by kernel_rfl) rfl (by kernel_rfl)
 refine run_loop rfl (run_loopO hl1 (fun s1=>[(0,.row 0),(2,vi x2),(3,vi x3),(8,vi s1.1)]) (fun s1=>[(0,.row 23 (.int .u64) s1.2)]) rfl rfl (fun s1 o1 F1 ih1 hr1=>?_))
 unfold F_slices_siftDownOrdered_uint64_b1 at F1
 refine run_again (bk rfl (sq rfl ?_))
 refine sE (oE [0,2,3,8,9] [0] 5000 rfl (qE rfl (qE rfl (oE [0,2,3,8,9,16] [0] 5000 rfl (fA [(0,.row 0),(2,vi x2),(3,vi x3),(8,vi s1.1),(9,vi (wrap .i64 ((wrap .i64 ((2:Int)*s1.1))+1))),(16,vb (decide ((wrap .i64 ((wrap .i64 ((2:Int)*s1.1))+1))≥x2)))] [(0,.row 23 (.int .u64) s1.2)] c0 ?_)))))
 refine run_if rfl rfl (fun h2=>?_) (fun h2=>?_)
 ·replace F1:=ift h2 F1
  refine run_exit rfl rfl (tm (ρ':=[]) (H':=[(0,.row 23 (.int .u64) s1.2)]) (by kernel_rfl) (by kernel_rfl) rfl ?_)
  exact J1_0 _ (inrI hr1 F1).symm
 ·replace F1:=ifn h2 F1
  obtain ⟨r2,F2,F1⟩:=obd F1
  refine sk rfl (sq rfl (sq rfl ?_))
  refine run_cut (fun r2'=>r2=r2') (fun r2=>[(0,.row 0),(2,vi x2),(3,vi x3),(8,vi s1.1),(9,vi (wrap .i64 ((wrap .i64 ((2:Int)*s1.1))+1))),(36,vb r2)]) (fun r2=>[(0,.row 23 (.int .u64) s1.2)]) (fun r2' h3=>?_) (fun J2_0=>?_)
  ·subst h3
   obtain ⟨r3,F2,F1⟩:=obd F1
   refine run_cut (fun r3'=>r3=r3') (fun r3=>[(0,.row 0),(2,vi x2),(3,vi x3),(8,vi s1.1),(9,vi r3)]) (fun r3=>[(0,.row 23 (.int .u64) s1.2)]) (fun r3' h4=>?_) (fun J3_0=>?_)
   ·subst h4
    obtain ⟨h5,F1⟩:=ifg F1
    obtain ⟨h6,F1⟩:=ifg F1
    obtain ⟨t1,h7,F1⟩:=obd F1
    refine sq rfl (sq rfl (rC [(0,.row 0),(2,vi x2),(3,vi x3),(8,vi s1.1),(9,vi r3),(52,vb (!t1))] [(0,.row 23 (.int .u64) s1.2)] [(12,⟨[.v (.int .u64),.v (.int .u64)],vb t1,none⟩)] [] 5000 rfl (cc h5 (cc (@rfl Nat (toNat (wrap .i64 (x3+s1.1))*1)) (cc (oo h5 trivial) (cc h6 (cc (@rfl Nat (toNat (wrap .i64 (x3+r3))*1)) (cc (oo h6 trivial) (cc (W_cmp_Less_uint64 h7) c0))))))) ?_))
    refine run_if rfl rfl (fun h8=>?_) (fun h8=>?_)
    ·replace F1:=ift h8 F1
     refine tm (ρ':=[]) (H':=[(0,.row 23 (.int .u64) s1.2)]) (by kernel_rfl) (by kernel_rfl) rfl ?_
     have e1:=inrI hr1 F1
     subst e1
     replace F0:=sumR F0
     obtain rfl:=inj F0
     exact ret_mut (q:=[]) [] [0] rfl rfl (by kernel_rfl) rfl (by kernel_rfl)
    ·replace F1:=ifn h8 F1
     obtain ⟨h9,F1⟩:=ifg F1
     obtain ⟨h10,F1⟩:=ifg F1
     obtain ⟨h11,F1⟩:=ifg F1
     obtain ⟨h12,F1⟩:=ifg F1
     refine sk rfl (sq rfl ?_)
     refine sE (gE [0,2,3,9] [0] [] [] 5000 rfl rfl (oE [0,2,3,8] [0] 5000 rfl (fA [(0,.row 0),(2,vi x2),(3,vi x3),(8,vi r3)] [(0,.row 23 (.int .u64) (List.set (List.set s1.2 (toNat (wrap .i64 (x3+s1.1))) (getD s1.2 (toNat (wrap .i64 (x3+r3))) 0)) (toNat (wrap .i64 (x3+r3))) (getD s1.2 (toNat (wrap .i64 (x3+s1.1))) 0)))] (cc h9 (cc (@rfl Nat (toNat (wrap .i64 (x3+r3))*1)) (cc (oo h9 trivial) (cc h10 (cc (@rfl Nat (toNat (wrap .i64 (x3+s1.1))*1)) (cc (oo h10 trivial) (cc h11 (cc (@rfl Nat (toNat (wrap .i64 (x3+s1.1))*1)) (cc (oo h11 trivial) (cc h12 (cc (@rfl Nat (toNat (wrap .i64 (x3+r3))*1)) (cc (oo h12 trivial) c0)))))))))))) (eb ?_))))
     exact ih1 _ (inj F1).symm
   refine run_if rfl rfl (fun h13=>?_) (fun h13=>?_)
   ·replace F2:=ift h13 F2
    refine rB [(0,.row 0),(2,vi x2),(3,vi x3),(8,vi s1.1),(9,vi (wrap .i64 ((wrap .i64 ((wrap .i64 ((2:Int)*s1.1))+1))+1)))] [(0,.row 23 (.int .u64) s1.2)] 5000 rfl c0 ?_
    exact J3_0 _ (inj F2).symm
   ·replace F2:=ifn h13 F2
    refine sk rfl (tm (ρ':=[(0,.row 0),(2,vi x2),(3,vi x3),(8,vi s1.1),(9,vi (wrap .i64 ((wrap .i64 ((2:Int)*s1.1))+1)))]) (H':=[(0,.row 23 (.int .u64) s1.2)]) (by kernel_rfl) (by kernel_rfl) rfl ?_)
    exact J3_0 _ (inj F2).symm
  rcases Bool.eq_false_or_eq_true (decide ((wrap .i64 ((wrap .i64 ((wrap .i64 ((2:Int)*s1.1))+1))+1))<x2)) with h14|h14
  ·replace F2:=ift h14 F2
   obtain ⟨h15,F2⟩:=ifg F2
   obtain ⟨h16,F2⟩:=ifg F2
   obtain ⟨t2,h17,F2⟩:=obd F2
   refine rC [(0,.row 0),(2,vi x2),(3,vi x3),(8,vi s1.1),(9,vi (wrap .i64 ((wrap .i64 ((2:Int)*s1.1))+1))),(36,vb t2)] [(0,.row 23 (.int .u64) s1.2)] [(18,⟨[.v (.int .u64),.v (.int .u64)],vb t2,none⟩)] [(4,true)] 5000 rfl (cc h14 (cc h15 (cc (@rfl Nat (toNat (wrap .i64 (x3+(wrap .i64 ((wrap .i64 ((2:Int)*s1.1))+1))))*1)) (cc (oo h15 trivial) (cc h16 (cc (@rfl Nat (toNat (wrap .i64 ((wrap .i64 (x3+(wrap .i64 ((wrap .i64 ((2:Int)*s1.1))+1))))+1))*1)) (cc (oo h16 trivial) (cc (W_cmp_Less_uint64 h17) c0)))))))) ?_
   exact J2_0 _ (inj F2).symm
  ·replace F2:=ifn h14 F2
   refine rC [(0,.row 0),(2,vi x2),(3,vi x3),(8,vi s1.1),(9,vi (wrap .i64 ((wrap .i64 ((2:Int)*s1.1))+1))),(36,vb false)] [(0,.row 23 (.int .u64) s1.2)] [] [(4,false)] 5000 rfl (cc h14 c0) ?_
   exact J2_0 _ (inj F2).symm
noncomputable def F_slices_heapSortOrdered_uint64_b2 (x1:Int) (s2:(Int×(List Int))):Option ((Int×(List Int))⊕(List Int)) :=
 if (decide (s2.1≥0))=true then if 0≤(wrap .i64 (x1+s2.1))∧(wrap .i64 (x1+s2.1))<((length s2.2:Nat):Int) then (if 0≤x1∧x1<((length s2.2:Nat):Int) then (if 0≤x1∧x1<((length s2.2:Nat):Int) then (if 0≤(wrap .i64 (x1+s2.1))∧(wrap .i64 (x1+s2.1))<((length (List.set s2.2 (toNat x1) (getD s2.2 (toNat (wrap .i64 (x1+s2.1))) 0)):Nat):Int) then (F_slices_siftDownOrdered_uint64 (List.set (List.set s2.2 (toNat x1) (getD s2.2 (toNat (wrap .i64 (x1+s2.1))) 0)) (toNat (wrap .i64 (x1+s2.1))) (getD s2.2 (toNat x1) 0)) 0 s2.1 x1).bind fun t1=>(some (Sum.inl (wrap .i64 (s2.1-1),t1))) else none) else none) else none) else none else some (Sum.inr s2.2)
noncomputable def F_slices_heapSortOrdered_uint64_b1 (x1:Int) (x2:Int) (s1:(Int×(List Int))):Option ((Int×(List Int))⊕(List Int)) :=
 if (decide (s1.1≥0))=true then (F_slices_siftDownOrdered_uint64 s1.2 s1.1 (wrap .i64 (x2-x1)) x1).bind fun t2=>(some (Sum.inl (wrap .i64 (s1.1-1),t2))) else some (Sum.inr s1.2)
noncomputable def F_slices_heapSortOrdered_uint64 (x0:(List Int)) (x1:Int) (x2:Int):Option (List Int) :=
 (loopO (F_slices_heapSortOrdered_uint64_b1 x1 x2) (wrap .i64 (Int.tdiv (wrap .i64 ((wrap .i64 (x2-x1))-1)) 2),x0)).bind (fun r1=>(loopO (F_slices_heapSortOrdered_uint64_b2 x1) (wrap .i64 ((wrap .i64 (x2-x1))-1),r1)).bind (fun r2=>some r2))
theorem W_slices_heapSortOrdered_uint64 {x0:(List Int)} {x1:Int} {x2:Int} {y:(List Int)} (F0:F_slices_heapSortOrdered_uint64 x0 x1 x2=some y):Mut Tryz.prog 234 1 [.row 0,vi x1,vi x2] [(0,.row 23 (.int .u64) x0)] (.tup []) [(0,.row 23 (.int .u64) y)]:=by
 unfold F_slices_heapSortOrdered_uint64 at F0
 refine mut_of_run @Tryz.call234 @Tryz.func234 rfl rfl fun b=>?_
 obtain ⟨r1,hl1,F0⟩:=obd F0
 refine sq rfl ?_
 refine sE (oE [0,1,2,6] [0] 5000 rfl (qE rfl (oE [0,1,2,6,7] [0] 5000 rfl (qE rfl (oE [0,6,7,8] [0] 5000 rfl (qE rfl (qE rfl (oE [0,6,7,8,9] [0] 5000 rfl (fA [(0,.row 0),(6,vi x1),(7,vi 0),(8,vi (wrap .i64 (x2-x1))),(9,vi (wrap .i64 (Int.tdiv (wrap .i64 ((wrap .i64 (x2-x1))-1)) 2)))] [(0,.row 23 (.int .u64) x0)] (cc (show 2≠(0:Int) from (by decide)) c0) (bk rfl ?_))))))))))
 refine run_cutx 0 rfl (fun r1'=>r1=r1') (fun r1=>[(0,.row 0),(6,vi x1),(7,vi 0),(8,vi (wrap .i64 (x2-x1)))]) (fun r1=>[(0,.row 23 (.int .u64) r1)]) (fun r1' h1=>?_) (fun J1_0=>?_)
 ·subst h1
  obtain ⟨r2,hl2,F0⟩:=obd F0
  refine sq rfl (rB [(0,.row 0),(6,vi x1),(7,vi 0),(10,vi (wrap .i64 ((wrap .i64 (x2-x1))-1)))] [(0,.row 23 (.int .u64) r1)] 5000 rfl c0 (bk rfl ?_))
  refine run_cutx 2 rfl (fun r2'=>r2=r2') (fun r2=>[]) (fun r2=>[(0,.row 23 (.int .u64) r2)]) (fun r2' h2=>?_) (fun J2_0=>?_)
  ·subst h2
   obtain rfl:=inj F0
   exact fall_mut (q:=[]) [] [0] rfl (by kernel_rfl) rfl (by kernel_rfl)
  refine run_loop rfl (run_loopO hl2 (fun s2=>[(0,.row 0),(6,vi x1),(7,vi 0),(10,vi s2.1)]) (fun s2=>[(0,.row 23 (.int .u64) s2.2)]) rfl rfl (fun s2 o2 F1 ih2 hr2=>?_))
  unfold F_slices_heapSortOrdered_uint64_b2 at F1
  refine run_again (sq rfl (sq rfl (rB [(0,.row 0),(6,vi x1),(7,vi 0),(10,vi s2.1),(30,vb (decide (s2.1≥0)))] [(0,.row 23 (.int .u64) s2.2)] 5000 rfl c0 ?_)))
  refine run_if rfl rfl (fun h3=>?_) (fun h3=>?_)
  ·replace F1:=ift h3 F1
   obtain ⟨h4,F1⟩:=ifg F1
   obtain ⟨h5,F1⟩:=ifg F1
   obtain ⟨h6,F1⟩:=ifg F1
   obtain ⟨h7,F1⟩:=ifg F1
   obtain ⟨t1,h8,F1⟩:=obd F1
   refine sk rfl (sq rfl (bk rfl (sq rfl ?_)))
   refine sE (gE [0,6,7,10] [0] [] [] 5000 rfl rfl (rE [0,6,7,10] [0] [(4,⟨[.v .unit,.v (.int .i64),.v (.int .i64),.v (.int .i64)],.tup [],some ([0],[(0,.row 23 (.int .u64) t1)])⟩)] [] 5000 rfl (eE (oE [0,6,7,10] [0] 5000 rfl (fA [(0,.row 0),(6,vi x1),(7,vi 0),(10,vi (wrap .i64 (s2.1-1)))] [(0,.row 23 (.int .u64) t1)] (cc h4 (cc (@rfl Nat (toNat (wrap .i64 (x1+s2.1))*1)) (cc (oo h4 trivial) (cc h5 (cc (@rfl Nat (toNat x1*1)) (cc (oo h5 trivial) (cc h6 (cc (@rfl Nat (toNat x1*1)) (cc (oo h6 trivial) (cc h7 (cc (@rfl Nat (toNat (wrap .i64 (x1+s2.1))*1)) (cc (oo h7 trivial) (cc (W_slices_siftDownOrdered_uint64 h8) c0))))))))))))) ?_)))))
   exact ih2 _ (inj F1).symm
  ·replace F1:=ifn h3 F1
   refine run_exit rfl rfl (tm (ρ':=[]) (H':=[(0,.row 23 (.int .u64) s2.2)]) (by kernel_rfl) (by kernel_rfl) rfl ?_)
   exact J2_0 _ (inrI hr2 F1).symm
 refine run_loop rfl (run_loopO hl1 (fun s1=>[(0,.row 0),(6,vi x1),(7,vi 0),(8,vi (wrap .i64 (x2-x1))),(9,vi s1.1)]) (fun s1=>[(0,.row 23 (.int .u64) s1.2)]) rfl rfl (fun s1 o1 F1 ih1 hr1=>?_))
 unfold F_slices_heapSortOrdered_uint64_b1 at F1
 refine run_again (sq rfl (sq rfl (rB [(0,.row 0),(6,vi x1),(7,vi 0),(8,vi (wrap .i64 (x2-x1))),(9,vi s1.1),(19,vb (decide (s1.1≥0)))] [(0,.row 23 (.int .u64) s1.2)] 5000 rfl c0 ?_)))
 refine run_if rfl rfl (fun h9=>?_) (fun h9=>?_)
 ·replace F1:=ift h9 F1
  obtain ⟨t2,h10,F1⟩:=obd F1
  refine sk rfl (sq rfl (bk rfl ?_))
  refine sE (rE [0,6,7,8,9] [0] [(4,⟨[.v .unit,.v (.int .i64),.v (.int .i64),.v (.int .i64)],.tup [],some ([0],[(0,.row 23 (.int .u64) t2)])⟩)] [] 5000 rfl (eE (oE [0,6,7,8,9] [0] 5000 rfl (fA [(0,.row 0),(6,vi x1),(7,vi 0),(8,vi (wrap .i64 (x2-x1))),(9,vi (wrap .i64 (s1.1-1)))] [(0,.row 23 (.int .u64) t2)] (cc (W_slices_siftDownOrdered_uint64 h10) c0) ?_))))
  exact ih1 _ (inj F1).symm
 ·replace F1:=ifn h9 F1
  refine run_exit rfl rfl (tm (ρ':=[(0,.row 0),(6,vi x1),(7,vi 0),(8,vi (wrap .i64 (x2-x1)))]) (H':=[(0,.row 23 (.int .u64) s1.2)]) (by kernel_rfl) (by kernel_rfl) rfl ?_)
  exact J1_0 _ (inrI hr1 F1).symm
noncomputable def F_slices_reverseRangeOrdered_uint64_b1 (s1:(Int×Int×(List Int))):Option ((Int×Int×(List Int))⊕(List Int)) :=
 if (decide (s1.1<s1.2.1))=true then if 0≤s1.2.1∧s1.2.1<((length s1.2.2:Nat):Int) then (if 0≤s1.1∧s1.1<((length s1.2.2:Nat):Int) then (if 0≤s1.1∧s1.1<((length s1.2.2:Nat):Int) then (if 0≤s1.2.1∧s1.2.1<((length (List.set s1.2.2 (toNat s1.1) (getD s1.2.2 (toNat s1.2.1) 0)):Nat):Int) then (some (Sum.inl (wrap .i64 (s1.1+1),wrap .i64 (s1.2.1-1),List.set (List.set s1.2.2 (toNat s1.1) (getD s1.2.2 (toNat s1.2.1) 0)) (toNat s1.2.1) (getD s1.2.2 (toNat s1.1) 0)))) else none) else none) else none) else none else some (Sum.inr s1.2.2)
noncomputable def F_slices_reverseRangeOrdered_uint64 (x0:(List Int)) (x1:Int) (x2:Int):Option (List Int) :=
 (loopO (F_slices_reverseRangeOrdered_uint64_b1) (x1,wrap .i64 (x2-1),x0)).bind (fun r1=>some r1)
theorem W_slices_reverseRangeOrdered_uint64 {x0:(List Int)} {x1:Int} {x2:Int} {y:(List Int)} (F0:F_slices_reverseRangeOrdered_uint64 x0 x1 x2=some y):Mut Tryz.prog 237 1 [.row 0,vi x1,vi x2] [(0,.row 23 (.int .u64) x0)] (.tup []) [(0,.row 23 (.int .u64) y)]:=by
 unfold F_slices_reverseRangeOrdered_uint64 at F0
 refine mut_of_run @Tryz.call237 @Tryz.func237 rfl rfl fun b=>?_
 obtain ⟨r1,hl1,F0⟩:=obd F0
 refine sq rfl ?_
 refine sE (oE [0,2,6] [0] 5000 rfl (qE rfl (oE [0,6,7] [0] 5000 rfl (fA [(0,.row 0),(6,vi x1),(7,vi (wrap .i64 (x2-1)))] [(0,.row 23 (.int .u64) x0)] c0 (bk rfl ?_)))))
 refine run_cutx 0 rfl (fun r1'=>r1=r1') (fun r1=>[]) (fun r1=>[(0,.row 23 (.int .u64) r1)]) (fun r1' h1=>?_) (fun J1_0=>?_)
 ·subst h1
  obtain rfl:=inj F0
  exact fall_mut (q:=[]) [] [0] rfl (by kernel_rfl) rfl (by kernel_rfl)
 refine run_loop rfl (run_loopO hl1 (fun s1=>[(0,.row 0),(6,vi s1.1),(7,vi s1.2.1)]) (fun s1=>[(0,.row 23 (.int .u64) s1.2.2)]) rfl rfl (fun s1 o1 F1 ih1 hr1=>?_))
 unfold F_slices_reverseRangeOrdered_uint64_b1 at F1
 refine run_again (sq rfl (sq rfl (rB [(0,.row 0),(6,vi s1.1),(7,vi s1.2.1),(13,vb (decide (s1.1<s1.2.1)))] [(0,.row 23 (.int .u64) s1.2.2)] 5000 rfl c0 ?_)))
 refine run_if rfl rfl (fun h2=>?_) (fun h2=>?_)
 ·replace F1:=ift h2 F1
  obtain ⟨h3,F1⟩:=ifg F1
  obtain ⟨h4,F1⟩:=ifg F1
  obtain ⟨h5,F1⟩:=ifg F1
  obtain ⟨h6,F1⟩:=ifg F1
  refine sk rfl (bk rfl (sq rfl ?_))
  refine sE (gE [0,6,7] [0] [] [] 5000 rfl rfl (qE rfl (oE [0,6,7] [0] 5000 rfl (oE [0,6,7] [0] 5000 rfl (fA [(0,.row 0),(6,vi (wrap .i64 (s1.1+1))),(7,vi (wrap .i64 (s1.2.1-1)))] [(0,.row 23 (.int .u64) (List.set (List.set s1.2.2 (toNat s1.1) (getD s1.2.2 (toNat s1.2.1) 0)) (toNat s1.2.1) (getD s1.2.2 (toNat s1.1) 0)))] (cc h3 (cc (@rfl Nat (toNat s1.2.1*1)) (cc (oo h3 trivial) (cc h4 (cc (@rfl Nat (toNat s1.1*1)) (cc (oo h4 trivial) (cc h5 (cc (@rfl Nat (toNat s1.1*1)) (cc (oo h5 trivial) (cc h6 (cc (@rfl Nat (toNat s1.2.1*1)) (cc (oo h6 trivial) c0)))))))))))) (eb ?_))))))
  exact ih1 _ (inj F1).symm
 ·replace F1:=ifn h2 F1
  refine run_exit rfl rfl (tm (ρ':=[]) (H':=[(0,.row 23 (.int .u64) s1.2.2)]) (by kernel_rfl) (by kernel_rfl) rfl ?_)
  exact J1_0 _ (inrI hr1 F1).symm
noncomputable def F_slices_partialInsertionSortOrdered_uint64_b4 (x2:Int) (s4:(Int×(List Int))):Option ((Int×(List Int))⊕(List Int)) :=
 if (decide (s4.1<x2))=true then if 0≤s4.1∧s4.1<((length s4.2:Nat):Int) then (if 0≤(wrap .i64 (s4.1-1))∧(wrap .i64 (s4.1-1))<((length s4.2:Nat):Int) then (F_cmp_Less_uint64 (getD s4.2 (toNat s4.1) 0) (getD s4.2 (toNat (wrap .i64 (s4.1-1))) 0)).bind fun t1=>(if (!t1)=true then some (Sum.inr s4.2) else if 0≤(wrap .i64 (s4.1-1))∧(wrap .i64 (s4.1-1))<((length s4.2:Nat):Int) then (if 0≤s4.1∧s4.1<((length s4.2:Nat):Int) then (if 0≤s4.1∧s4.1<((length s4.2:Nat):Int) then (if 0≤(wrap .i64 (s4.1-1))∧(wrap .i64 (s4.1-1))<((length (List.set s4.2 (toNat s4.1) (getD s4.2 (toNat (wrap .i64 (s4.1-1))) 0)):Nat):Int) then (some (Sum.inl (wrap .i64 (s4.1+1),List.set (List.set s4.2 (toNat s4.1) (getD s4.2 (toNat (wrap .i64 (s4.1-1))) 0)) (toNat (wrap .i64 (s4.1-1))) (getD s4.2 (toNat s4.1) 0)))) else none) else none) else none) else none) else none) else none else some (Sum.inr s4.2)
noncomputable def F_slices_partialInsertionSortOrdered_uint64_b5 (s5:(Int×(List Int))):Option ((Int×(List Int))⊕(List Int)) :=
 if (decide (s5.1≥1))=true then if 0≤s5.1∧s5.1<((length s5.2:Nat):Int) then (if 0≤(wrap .i64 (s5.1-1))∧(wrap .i64 (s5.1-1))<((length s5.2:Nat):Int) then (F_cmp_Less_uint64 (getD s5.2 (toNat s5.1) 0) (getD s5.2 (toNat (wrap .i64 (s5.1-1))) 0)).bind fun t2=>(if (!t2)=true then some (Sum.inr s5.2) else if 0≤(wrap .i64 (s5.1-1))∧(wrap .i64 (s5.1-1))<((length s5.2:Nat):Int) then (if 0≤s5.1∧s5.1<((length s5.2:Nat):Int) then (if 0≤s5.1∧s5.1<((length s5.2:Nat):Int) then (if 0≤(wrap .i64 (s5.1-1))∧(wrap .i64 (s5.1-1))<((length (List.set s5.2 (toNat s5.1) (getD s5.2 (toNat (wrap .i64 (s5.1-1))) 0)):Nat):Int) then (some (Sum.inl (wrap .i64 (s5.1-1),List.set (List.set s5.2 (toNat s5.1) (getD s5.2 (toNat (wrap .i64 (s5.1-1))) 0)) (toNat (wrap .i64 (s5.1-1))) (getD s5.2 (toNat s5.1) 0)))) else none) else none) else none) else none) else none) else none else some (Sum.inr s5.2)
noncomputable def F_slices_partialInsertionSortOrdered_uint64_b2 (s1:(Int×Int×(List Int))) (x2:Int) (s2:Int):Option (Int⊕Int) :=
 (show Option Bool from if (decide (s2<x2))=true then if 0≤s2∧s2<((length s1.2.2:Nat):Int) then (if 0≤(wrap .i64 (s2-1))∧(wrap .i64 (s2-1))<((length s1.2.2:Nat):Int) then (F_cmp_Less_uint64 (getD s1.2.2 (toNat s2) 0) (getD s1.2.2 (toNat (wrap .i64 (s2-1))) 0)).bind fun t3=>(some (!t3)) else none) else none else some false).bind (fun r6=>if (r6)=true then some (Sum.inl (wrap .i64 (s2+1))) else some (Sum.inr s2))
noncomputable def F_slices_partialInsertionSortOrdered_uint64_b1 (x1:Int) (x2:Int) (s1:(Int×Int×(List Int))):Option ((Int×Int×(List Int))⊕((Bool×(List Int))⊕(List Int))) :=
 if (decide (s1.2.1<5))=true then (loopO (F_slices_partialInsertionSortOrdered_uint64_b2 s1 x2) s1.1).bind (fun r2=>if (r2==x2)=true then some (Sum.inr (Sum.inl (true,s1.2.2))) else if (decide ((wrap .i64 (x2-x1))<50))=true then some (Sum.inr (Sum.inl (false,s1.2.2))) else if 0≤(wrap .i64 (r2-1))∧(wrap .i64 (r2-1))<((length s1.2.2:Nat):Int) then (if 0≤r2∧r2<((length s1.2.2:Nat):Int) then (if 0≤r2∧r2<((length s1.2.2:Nat):Int) then (if 0≤(wrap .i64 (r2-1))∧(wrap .i64 (r2-1))<((length (List.set s1.2.2 (toNat r2) (getD s1.2.2 (toNat (wrap .i64 (r2-1))) 0)):Nat):Int) then (show Option (List Int) from if (decide ((wrap .i64 (r2-x1))≥2))=true then (loopO (F_slices_partialInsertionSortOrdered_uint64_b5) (wrap .i64 (r2-1),List.set (List.set s1.2.2 (toNat r2) (getD s1.2.2 (toNat (wrap .i64 (r2-1))) 0)) (toNat (wrap .i64 (r2-1))) (getD s1.2.2 (toNat r2) 0))).bind (fun r5=>some r5) else some (List.set (List.set s1.2.2 (toNat r2) (getD s1.2.2 (toNat (wrap .i64 (r2-1))) 0)) (toNat (wrap .i64 (r2-1))) (getD s1.2.2 (toNat r2) 0))).bind (fun r3=>if (decide ((wrap .i64 (x2-r2))≥2))=true then (loopO (F_slices_partialInsertionSortOrdered_uint64_b4 x2) (wrap .i64 (r2+1),r3)).bind (fun r4=>some (Sum.inl (r2,wrap .i64 (s1.2.1+1),r4))) else some (Sum.inl (r2,wrap .i64 (s1.2.1+1),r3))) else none) else none) else none) else none) else some (Sum.inr (Sum.inr s1.2.2))
noncomputable def F_slices_partialInsertionSortOrdered_uint64 (x0:(List Int)) (x1:Int) (x2:Int):Option (Bool×(List Int)) :=
 (loopO (F_slices_partialInsertionSortOrdered_uint64_b1 x1 x2) (wrap .i64 (x1+1),0,x0)).bind (Sum.elim some (fun j11=>some (false,j11)))
theorem W_slices_partialInsertionSortOrdered_uint64 {x0:(List Int)} {x1:Int} {x2:Int} {y:(Bool×(List Int))} (F0:F_slices_partialInsertionSortOrdered_uint64 x0 x1 x2=some y):Mut Tryz.prog 238 1 [.row 0,vi x1,vi x2] [(0,.row 23 (.int .u64) x0)] (vb y.1) [(0,.row 23 (.int .u64) y.2)]:=by
 unfold F_slices_partialInsertionSortOrdered_uint64 at F0
 refine mut_of_run @Tryz.call238 @Tryz.func238 rfl rfl fun b=>?_
 obtain ⟨r1,hl1,F0⟩:=obd F0
 refine sq rfl ?_
 refine sE (oE [0,1,2] [0] 5000 rfl (qE rfl (oE [0,1,2,7] [0] 5000 rfl (qE rfl (qE rfl (oE [0,1,2,7,8] [0] 5000 rfl (fA [(0,.row 0),(1,vi x1),(2,vi x2),(7,vi (wrap .i64 (x1+1))),(8,vi 0)] [(0,.row 23 (.int .u64) x0)] c0 (bk rfl ?_))))))))
 refine run_cutx 0 rfl (fun j11=>r1=Sum.inr j11) (fun j11=>[]) (fun j11=>[(0,.row 23 (.int .u64) j11)]) (fun j11 h1=>?_) (fun J1_1=>?_)
 ·subst h1
  replace F0:=sumR F0
  refine sq rfl (rB [(6,vb false)] [(0,.row 23 (.int .u64) j11)] 5000 rfl c0 ?_)
  obtain rfl:=inj F0
  exact ret_mut (q:=[vb false]) [some .bool] [0] rfl rfl (by kernel_rfl) rfl (by kernel_rfl)
 refine run_loop rfl (run_loopO hl1 (fun s1=>[(0,.row 0),(1,vi x1),(2,vi x2),(7,vi s1.1),(8,vi s1.2.1)]) (fun s1=>[(0,.row 23 (.int .u64) s1.2.2)]) rfl rfl (fun s1 o1 F1 ih1 hr1=>?_))
 unfold F_slices_partialInsertionSortOrdered_uint64_b1 at F1
 refine run_again (sq rfl (sq rfl (rB [(0,.row 0),(1,vi x1),(2,vi x2),(7,vi s1.1),(8,vi s1.2.1),(14,vb (decide (s1.2.1<5)))] [(0,.row 23 (.int .u64) s1.2.2)] 5000 rfl c0 ?_)))
 refine run_if rfl rfl (fun h2=>?_) (fun h2=>?_)
 ·replace F1:=ift h2 F1
  refine sk rfl (sq rfl (bk rfl (sq rfl (bk rfl (tm (ρ':=[(0,.row 0),(1,vi x1),(2,vi x2),(7,vi s1.1),(8,vi s1.2.1)]) (H':=[(0,.row 23 (.int .u64) s1.2.2)]) (by kernel_rfl) (by kernel_rfl) rfl ?_)))))
  obtain ⟨r2,hl2,F1⟩:=obd F1
  refine run_cutx 2 rfl (fun r2'=>r2=r2') (fun r2=>[(0,.row 0),(1,vi x1),(2,vi x2),(7,vi r2),(8,vi s1.2.1)]) (fun r2=>[(0,.row 23 (.int .u64) s1.2.2)]) (fun r2' h3=>?_) (fun J2_0=>?_)
  ·subst h3
   refine sq rfl (sq rfl (rB [(0,.row 0),(1,vi x1),(2,vi x2),(7,vi r2),(8,vi s1.2.1),(37,vb (r2==x2))] [(0,.row 23 (.int .u64) s1.2.2)] 5000 rfl c0 ?_))
   refine run_if rfl rfl (fun h4=>?_) (fun h4=>?_)
   ·replace F1:=ift h4 F1
    refine sq rfl (rB [(6,vb true)] [(0,.row 23 (.int .u64) s1.2.2)] 5000 rfl c0 ?_)
    have e1:=inrI hr1 F1
    subst e1
    replace F0:=sumL F0
    obtain rfl:=inj F0
    exact ret_mut (q:=[vb true]) [some .bool] [0] rfl rfl (by kernel_rfl) rfl (by kernel_rfl)
   ·replace F1:=ifn h4 F1
    refine sk rfl (sq rfl (sq rfl (rB [(0,.row 0),(1,vi x1),(2,vi x2),(7,vi r2),(8,vi s1.2.1),(41,vb (decide ((wrap .i64 (x2-x1))<50)))] [(0,.row 23 (.int .u64) s1.2.2)] 5000 rfl c0 ?_)))
    refine run_if rfl rfl (fun h5=>?_) (fun h5=>?_)
    ·replace F1:=ift h5 F1
     refine sq rfl (rB [(6,vb false)] [(0,.row 23 (.int .u64) s1.2.2)] 5000 rfl c0 ?_)
     have e1:=inrI hr1 F1
     subst e1
     replace F0:=sumL F0
     obtain rfl:=inj F0
     exact ret_mut (q:=[vb false]) [some .bool] [0] rfl rfl (by kernel_rfl) rfl (by kernel_rfl)
    ·replace F1:=ifn h5 F1
     obtain ⟨h6,F1⟩:=ifg F1
     obtain ⟨h7,F1⟩:=ifg F1
     obtain ⟨h8,F1⟩:=ifg F1
     obtain ⟨h9,F1⟩:=ifg F1
     obtain ⟨r3,F2,F1⟩:=obd F1
     refine sk rfl (sq rfl ?_)
     refine sE (gE [0,1,2,7,8] [0] [] [] 5000 rfl rfl (qE rfl (qE rfl (oE [0,1,2,7,8,61] [0] 5000 rfl (fA [(0,.row 0),(1,vi x1),(2,vi x2),(7,vi r2),(8,vi s1.2.1),(61,vb (decide ((wrap .i64 (r2-x1))≥2)))] [(0,.row 23 (.int .u64) (List.set (List.set s1.2.2 (toNat r2) (getD s1.2.2 (toNat (wrap .i64 (r2-1))) 0)) (toNat (wrap .i64 (r2-1))) (getD s1.2.2 (toNat r2) 0)))] (cc h6 (cc (@rfl Nat (toNat (wrap .i64 (r2-1))*1)) (cc (oo h6 trivial) (cc h7 (cc (@rfl Nat (toNat r2*1)) (cc (oo h7 trivial) (cc h8 (cc (@rfl Nat (toNat r2*1)) (cc (oo h8 trivial) (cc h9 (cc (@rfl Nat (toNat (wrap .i64 (r2-1))*1)) (cc (oo h9 trivial) c0)))))))))))) ?_)))))
     refine run_cut (fun r3'=>r3=r3') (fun r3=>[(0,.row 0),(1,vi x1),(2,vi x2),(7,vi r2),(8,vi s1.2.1)]) (fun r3=>[(0,.row 23 (.int .u64) r3)]) (fun r3' h10=>?_) (fun J3_0=>?_)
     ·subst h10
      refine sq rfl (rB [(0,.row 0),(1,vi x1),(2,vi x2),(7,vi r2),(8,vi s1.2.1),(98,vb (decide ((wrap .i64 (x2-r2))≥2)))] [(0,.row 23 (.int .u64) r3)] 5000 rfl c0 ?_)
      refine run_if rfl rfl (fun h11=>?_) (fun h11=>?_)
      ·replace F1:=ift h11 F1
       obtain ⟨r4,hl4,F1⟩:=obd F1
       refine sq rfl (rB [(0,.row 0),(1,vi x1),(2,vi x2),(7,vi r2),(8,vi s1.2.1),(10,vi (wrap .i64 (r2+1)))] [(0,.row 23 (.int .u64) r3)] 5000 rfl c0 (bk rfl ?_))
       refine run_cutx 6 rfl (fun r4'=>r4=r4') (fun r4=>[(0,.row 0),(1,vi x1),(2,vi x2),(7,vi r2),(8,vi s1.2.1)]) (fun r4=>[(0,.row 23 (.int .u64) r4)]) (fun r4' h12=>?_) (fun J4_0=>?_)
       ·subst h12
        refine eb (rB [(0,.row 0),(1,vi x1),(2,vi x2),(7,vi r2),(8,vi (wrap .i64 (s1.2.1+1)))] [(0,.row 23 (.int .u64) r4)] 5000 rfl c0 ?_)
        exact ih1 _ (inj F1).symm
       refine run_loop rfl (run_loopO hl4 (fun s4=>[(0,.row 0),(1,vi x1),(2,vi x2),(7,vi r2),(8,vi s1.2.1),(10,vi s4.1)]) (fun s4=>[(0,.row 23 (.int .u64) s4.2)]) rfl rfl (fun s4 o4 F2 ih4 hr4=>?_))
       unfold F_slices_partialInsertionSortOrdered_uint64_b4 at F2
       refine run_again (sq rfl (sq rfl (rB [(0,.row 0),(1,vi x1),(2,vi x2),(7,vi r2),(8,vi s1.2.1),(10,vi s4.1),(103,vb (decide (s4.1<x2)))] [(0,.row 23 (.int .u64) s4.2)] 5000 rfl c0 ?_)))
       refine run_if rfl rfl (fun h13=>?_) (fun h13=>?_)
       ·replace F2:=ift h13 F2
        obtain ⟨h14,F2⟩:=ifg F2
        obtain ⟨h15,F2⟩:=ifg F2
        obtain ⟨t1,h16,F2⟩:=obd F2
        refine sk rfl (sq rfl (bk rfl (sq rfl (sq rfl (rC [(0,.row 0),(1,vi x1),(2,vi x2),(7,vi r2),(8,vi s1.2.1),(10,vi s4.1),(116,vb (!t1))] [(0,.row 23 (.int .u64) s4.2)] [(9,⟨[.v (.int .u64),.v (.int .u64)],vb t1,none⟩)] [] 5000 rfl (cc h14 (cc (@rfl Nat (toNat s4.1*1)) (cc (oo h14 trivial) (cc h15 (cc (@rfl Nat (toNat (wrap .i64 (s4.1-1))*1)) (cc (oo h15 trivial) (cc (W_cmp_Less_uint64 h16) c0))))))) ?_)))))
        refine run_if rfl rfl (fun h17=>?_) (fun h17=>?_)
        ·replace F2:=ift h17 F2
         refine run_exit rfl rfl (tm (ρ':=[(0,.row 0),(1,vi x1),(2,vi x2),(7,vi r2),(8,vi s1.2.1)]) (H':=[(0,.row 23 (.int .u64) s4.2)]) (by kernel_rfl) (by kernel_rfl) rfl ?_)
         exact J4_0 _ (inrI hr4 F2).symm
        ·replace F2:=ifn h17 F2
         obtain ⟨h18,F2⟩:=ifg F2
         obtain ⟨h19,F2⟩:=ifg F2
         obtain ⟨h20,F2⟩:=ifg F2
         obtain ⟨h21,F2⟩:=ifg F2
         refine sk rfl ?_
         refine sE (gE [0,1,2,7,8,10] [0] [] [] 5000 rfl rfl (eE (oE [0,1,2,7,8,10] [0] 5000 rfl (fA [(0,.row 0),(1,vi x1),(2,vi x2),(7,vi r2),(8,vi s1.2.1),(10,vi (wrap .i64 (s4.1+1)))] [(0,.row 23 (.int .u64) (List.set (List.set s4.2 (toNat s4.1) (getD s4.2 (toNat (wrap .i64 (s4.1-1))) 0)) (toNat (wrap .i64 (s4.1-1))) (getD s4.2 (toNat s4.1) 0)))] (cc h18 (cc (@rfl Nat (toNat (wrap .i64 (s4.1-1))*1)) (cc (oo h18 trivial) (cc h19 (cc (@rfl Nat (toNat s4.1*1)) (cc (oo h19 trivial) (cc h20 (cc (@rfl Nat (toNat s4.1*1)) (cc (oo h20 trivial) (cc h21 (cc (@rfl Nat (toNat (wrap .i64 (s4.1-1))*1)) (cc (oo h21 trivial) c0)))))))))))) ?_))))
         exact ih4 _ (inj F2).symm
       ·replace F2:=ifn h13 F2
        refine run_exit rfl rfl (tm (ρ':=[(0,.row 0),(1,vi x1),(2,vi x2),(7,vi r2),(8,vi s1.2.1)]) (H':=[(0,.row 23 (.int .u64) s4.2)]) (by kernel_rfl) (by kernel_rfl) rfl ?_)
        exact J4_0 _ (inrI hr4 F2).symm
      ·replace F1:=ifn h11 F1
       refine sk rfl (eb (rB [(0,.row 0),(1,vi x1),(2,vi x2),(7,vi r2),(8,vi (wrap .i64 (s1.2.1+1)))] [(0,.row 23 (.int .u64) r3)] 5000 rfl c0 ?_))
       exact ih1 _ (inj F1).symm
     refine run_if rfl rfl (fun h22=>?_) (fun h22=>?_)
     ·replace F2:=ift h22 F2
      obtain ⟨r5,hl5,F2⟩:=obd F2
      refine sq rfl (rB [(0,.row 0),(1,vi x1),(2,vi x2),(7,vi r2),(8,vi s1.2.1),(9,vi (wrap .i64 (r2-1)))] [(0,.row 23 (.int .u64) (List.set (List.set s1.2.2 (toNat r2) (getD s1.2.2 (toNat (wrap .i64 (r2-1))) 0)) (toNat (wrap .i64 (r2-1))) (getD s1.2.2 (toNat r2) 0)))] 5000 rfl c0 (bk rfl ?_))
      refine run_cutx 4 rfl (fun r5'=>r5=r5') (fun r5=>[(0,.row 0),(1,vi x1),(2,vi x2),(7,vi r2),(8,vi s1.2.1)]) (fun r5=>[(0,.row 23 (.int .u64) r5)]) (fun r5' h23=>?_) (fun J5_0=>?_)
      ·subst h23
       exact J3_0 _ (inj F2).symm
      refine run_loop rfl (run_loopO hl5 (fun s5=>[(0,.row 0),(1,vi x1),(2,vi x2),(7,vi r2),(8,vi s1.2.1),(9,vi s5.1)]) (fun s5=>[(0,.row 23 (.int .u64) s5.2)]) rfl rfl (fun s5 o5 F3 ih5 hr5=>?_))
      unfold F_slices_partialInsertionSortOrdered_uint64_b5 at F3
      refine run_again (sq rfl (sq rfl (rB [(0,.row 0),(1,vi x1),(2,vi x2),(7,vi r2),(8,vi s1.2.1),(9,vi s5.1),(65,vb (decide (s5.1≥1)))] [(0,.row 23 (.int .u64) s5.2)] 5000 rfl c0 ?_)))
      refine run_if rfl rfl (fun h24=>?_) (fun h24=>?_)
      ·replace F3:=ift h24 F3
       obtain ⟨h25,F3⟩:=ifg F3
       obtain ⟨h26,F3⟩:=ifg F3
       obtain ⟨t2,h27,F3⟩:=obd F3
       refine sk rfl (sq rfl (bk rfl (sq rfl (sq rfl (rC [(0,.row 0),(1,vi x1),(2,vi x2),(7,vi r2),(8,vi s1.2.1),(9,vi s5.1),(78,vb (!t2))] [(0,.row 23 (.int .u64) s5.2)] [(9,⟨[.v (.int .u64),.v (.int .u64)],vb t2,none⟩)] [] 5000 rfl (cc h25 (cc (@rfl Nat (toNat s5.1*1)) (cc (oo h25 trivial) (cc h26 (cc (@rfl Nat (toNat (wrap .i64 (s5.1-1))*1)) (cc (oo h26 trivial) (cc (W_cmp_Less_uint64 h27) c0))))))) ?_)))))
       refine run_if rfl rfl (fun h28=>?_) (fun h28=>?_)
       ·replace F3:=ift h28 F3
        refine run_exit rfl rfl (tm (ρ':=[(0,.row 0),(1,vi x1),(2,vi x2),(7,vi r2),(8,vi s1.2.1)]) (H':=[(0,.row 23 (.int .u64) s5.2)]) (by kernel_rfl) (by kernel_rfl) rfl ?_)
        exact J5_0 _ (inrI hr5 F3).symm
       ·replace F3:=ifn h28 F3
        obtain ⟨h29,F3⟩:=ifg F3
        obtain ⟨h30,F3⟩:=ifg F3
        obtain ⟨h31,F3⟩:=ifg F3
        obtain ⟨h32,F3⟩:=ifg F3
        refine sk rfl ?_
        refine sE (gE [0,1,2,7,8,9] [0] [] [] 5000 rfl rfl (eE (oE [0,1,2,7,8,9] [0] 5000 rfl (fA [(0,.row 0),(1,vi x1),(2,vi x2),(7,vi r2),(8,vi s1.2.1),(9,vi (wrap .i64 (s5.1-1)))] [(0,.row 23 (.int .u64) (List.set (List.set s5.2 (toNat s5.1) (getD s5.2 (toNat (wrap .i64 (s5.1-1))) 0)) (toNat (wrap .i64 (s5.1-1))) (getD s5.2 (toNat s5.1) 0)))] (cc h29 (cc (@rfl Nat (toNat (wrap .i64 (s5.1-1))*1)) (cc (oo h29 trivial) (cc h30 (cc (@rfl Nat (toNat s5.1*1)) (cc (oo h30 trivial) (cc h31 (cc (@rfl Nat (toNat s5.1*1)) (cc (oo h31 trivial) (cc h32 (cc (@rfl Nat (toNat (wrap .i64 (s5.1-1))*1)) (cc (oo h32 trivial) c0)))))))))))) ?_))))
        exact ih5 _ (inj F3).symm
      ·replace F3:=ifn h24 F3
       refine run_exit rfl rfl (tm (ρ':=[(0,.row 0),(1,vi x1),(2,vi x2),(7,vi r2),(8,vi s1.2.1)]) (H':=[(0,.row 23 (.int .u64) s5.2)]) (by kernel_rfl) (by kernel_rfl) rfl ?_)
       exact J5_0 _ (inrI hr5 F3).symm
     ·replace F2:=ifn h22 F2
      refine sk rfl (tm (ρ':=[(0,.row 0),(1,vi x1),(2,vi x2),(7,vi r2),(8,vi s1.2.1)]) (H':=[(0,.row 23 (.int .u64) (List.set (List.set s1.2.2 (toNat r2) (getD s1.2.2 (toNat (wrap .i64 (r2-1))) 0)) (toNat (wrap .i64 (r2-1))) (getD s1.2.2 (toNat r2) 0)))]) (by kernel_rfl) (by kernel_rfl) rfl ?_)
      exact J3_0 _ (inj F2).symm
  refine run_loop rfl (run_loopO hl2 (fun s2=>[(0,.row 0),(1,vi x1),(2,vi x2),(7,vi s2),(8,vi s1.2.1)]) (fun s2=>[(0,.row 23 (.int .u64) s1.2.2)]) rfl rfl (fun s2 o2 F2 ih2 hr2=>?_))
  unfold F_slices_partialInsertionSortOrdered_uint64_b2 at F2
  refine run_again ?_
  obtain ⟨r6,F3,F2⟩:=obd F2
  refine sq rfl (sq rfl ?_)
  refine run_cut (fun r6'=>r6=r6') (fun r6=>[(0,.row 0),(1,vi x1),(2,vi x2),(7,vi s2),(8,vi s1.2.1),(32,vb r6)]) (fun r6=>[(0,.row 23 (.int .u64) s1.2.2)]) (fun r6' h33=>?_) (fun J6_0=>?_)
  ·subst h33
   refine run_if rfl rfl (fun h34=>?_) (fun h34=>?_)
   ·replace F2:=ift h34 F2
    refine sk rfl (bk rfl (rB [(0,.row 0),(1,vi x1),(2,vi x2),(7,vi (wrap .i64 (s2+1))),(8,vi s1.2.1)] [(0,.row 23 (.int .u64) s1.2.2)] 5000 rfl c0 (eb ?_)))
    exact ih2 _ (inj F2).symm
   ·replace F2:=ifn h34 F2
    refine run_exit rfl rfl (tm (ρ':=[(0,.row 0),(1,vi x1),(2,vi x2),(7,vi s2),(8,vi s1.2.1)]) (H':=[(0,.row 23 (.int .u64) s1.2.2)]) (by kernel_rfl) (by kernel_rfl) rfl ?_)
    exact J2_0 _ (inrI hr2 F2).symm
  rcases Bool.eq_false_or_eq_true (decide (s2<x2)) with h35|h35
  ·replace F3:=ift h35 F3
   obtain ⟨h36,F3⟩:=ifg F3
   obtain ⟨h37,F3⟩:=ifg F3
   obtain ⟨t3,h38,F3⟩:=obd F3
   refine rC [(0,.row 0),(1,vi x1),(2,vi x2),(7,vi s2),(8,vi s1.2.1),(32,vb (!t3))] [(0,.row 23 (.int .u64) s1.2.2)] [(13,⟨[.v (.int .u64),.v (.int .u64)],vb t3,none⟩)] [(3,true)] 5000 rfl (cc h35 (cc h36 (cc (@rfl Nat (toNat s2*1)) (cc (oo h36 trivial) (cc h37 (cc (@rfl Nat (toNat (wrap .i64 (s2-1))*1)) (cc (oo h37 trivial) (cc (W_cmp_Less_uint64 h38) c0)))))))) ?_
   exact J6_0 _ (inj F3).symm
  ·replace F3:=ifn h35 F3
   refine rC [(0,.row 0),(1,vi x1),(2,vi x2),(7,vi s2),(8,vi s1.2.1),(32,vb false)] [(0,.row 23 (.int .u64) s1.2.2)] [] [(3,false)] 5000 rfl (cc h35 c0) ?_
   exact J6_0 _ (inj F3).symm
 ·replace F1:=ifn h2 F1
  refine run_exit rfl rfl (tm (ρ':=[]) (H':=[(0,.row 23 (.int .u64) s1.2.2)]) (by kernel_rfl) (by kernel_rfl) rfl ?_)
  exact J1_1 _ (inrI hr1 F1).symm
noncomputable def F_slices_partitionEqualOrdered_uint64_b3 (r2:Int) (s1:(Int×Int×(List Int))) (x1:Int) (s3:Int):Option (Int⊕Int) :=
 (show Option Bool from if (decide (r2≤s3))=true then if 0≤x1∧x1<((length s1.2.2:Nat):Int) then (if 0≤s3∧s3<((length s1.2.2:Nat):Int) then (F_cmp_Less_uint64 (getD s1.2.2 (toNat x1) 0) (getD s1.2.2 (toNat s3) 0)).bind fun t1=>(some t1) else none) else none else some false).bind (fun r4=>if (r4)=true then some (Sum.inl (wrap .i64 (s3-1))) else some (Sum.inr s3))
noncomputable def F_slices_partitionEqualOrdered_uint64_b2 (s1:(Int×Int×(List Int))) (x1:Int) (s2:Int):Option (Int⊕Int) :=
 (show Option Bool from if (decide (s2≤s1.2.1))=true then if 0≤x1∧x1<((length s1.2.2:Nat):Int) then (if 0≤s2∧s2<((length s1.2.2:Nat):Int) then (F_cmp_Less_uint64 (getD s1.2.2 (toNat x1) 0) (getD s1.2.2 (toNat s2) 0)).bind fun t2=>(some (!t2)) else none) else none else some false).bind (fun r5=>if (r5)=true then some (Sum.inl (wrap .i64 (s2+1))) else some (Sum.inr s2))
noncomputable def F_slices_partitionEqualOrdered_uint64_b1 (x1:Int) (s1:(Int×Int×(List Int))):Option ((Int×Int×(List Int))⊕(Int×(List Int))) :=
 (loopO (F_slices_partitionEqualOrdered_uint64_b2 s1 x1) s1.1).bind (fun r2=>(loopO (F_slices_partitionEqualOrdered_uint64_b3 r2 s1 x1) s1.2.1).bind (fun r3=>if (decide (r2>r3))=true then some (Sum.inr (r2,s1.2.2)) else if 0≤r3∧r3<((length s1.2.2:Nat):Int) then (if 0≤r2∧r2<((length s1.2.2:Nat):Int) then (if 0≤r2∧r2<((length s1.2.2:Nat):Int) then (if 0≤r3∧r3<((length (List.set s1.2.2 (toNat r2) (getD s1.2.2 (toNat r3) 0)):Nat):Int) then (some (Sum.inl (wrap .i64 (r2+1),wrap .i64 (r3-1),List.set (List.set s1.2.2 (toNat r2) (getD s1.2.2 (toNat r3) 0)) (toNat r3) (getD s1.2.2 (toNat r2) 0)))) else none) else none) else none) else none))
noncomputable def F_slices_partitionEqualOrdered_uint64 (x0:(List Int)) (x1:Int) (x2:Int) (x3:Int):Option (Int×(List Int)) :=
 if 0≤x3∧x3<((length x0:Nat):Int) then (if 0≤x1∧x1<((length x0:Nat):Int) then (if 0≤x1∧x1<((length x0:Nat):Int) then (if 0≤x3∧x3<((length (List.set x0 (toNat x1) (getD x0 (toNat x3) 0)):Nat):Int) then (loopO (F_slices_partitionEqualOrdered_uint64_b1 x1) (wrap .i64 (x1+1),wrap .i64 (x2-1),List.set (List.set x0 (toNat x1) (getD x0 (toNat x3) 0)) (toNat x3) (getD x0 (toNat x1) 0))).bind (fun r1=>some (r1.1,r1.2)) else none) else none) else none) else none
theorem W_slices_partitionEqualOrdered_uint64 {x0:(List Int)} {x1:Int} {x2:Int} {x3:Int} {y:(Int×(List Int))} (F0:F_slices_partitionEqualOrdered_uint64 x0 x1 x2 x3=some y):Mut Tryz.prog 240 1 [.row 0,vi x1,vi x2,vi x3] [(0,.row 23 (.int .u64) x0)] (vi y.1) [(0,.row 23 (.int .u64) y.2)]:=by
 unfold F_slices_partitionEqualOrdered_uint64 at F0
 refine mut_of_run @Tryz.call240 @Tryz.func240 rfl rfl fun b=>?_
 obtain ⟨h1,F0⟩:=ifg F0
 obtain ⟨h2,F0⟩:=ifg F0
 obtain ⟨h3,F0⟩:=ifg F0
 obtain ⟨h4,F0⟩:=ifg F0
 obtain ⟨r1,hl1,F0⟩:=obd F0
 refine sq rfl ?_
 refine sE (oE [0,1,2,3] [0] 5000 rfl (qE rfl (gE [0,1,2] [0] [] [] 5000 rfl rfl (qE rfl (oE [0,1,9,10] [0] 5000 rfl (fA [(0,.row 0),(1,vi x1),(9,vi (wrap .i64 (x1+1))),(10,vi (wrap .i64 (x2-1)))] [(0,.row 23 (.int .u64) (List.set (List.set x0 (toNat x1) (getD x0 (toNat x3) 0)) (toNat x3) (getD x0 (toNat x1) 0)))] (cc h1 (cc (@rfl Nat (toNat x3*1)) (cc (oo h1 trivial) (cc h2 (cc (@rfl Nat (toNat x1*1)) (cc (oo h2 trivial) (cc h3 (cc (@rfl Nat (toNat x1*1)) (cc (oo h3 trivial) (cc h4 (cc (@rfl Nat (toNat x3*1)) (cc (oo h4 trivial) c0)))))))))))) (sq rfl (bk rfl ?_))))))))
 refine run_cutx 0 rfl (fun r1'=>r1=r1') (fun r1=>[(9,vi r1.1)]) (fun r1=>[(0,.row 23 (.int .u64) r1.2)]) (fun r1' h5=>?_) (fun J1_0=>?_)
 ·subst h5
  refine sq rfl (rB [(8,vi r1.1)] [(0,.row 23 (.int .u64) r1.2)] 5000 rfl c0 ?_)
  obtain rfl:=inj F0
  exact ret_mut (q:=[vi r1.1]) [some (.int .i64)] [0] rfl rfl (by kernel_rfl) rfl (by kernel_rfl)
 refine run_loop rfl (run_loopO hl1 (fun s1=>[(0,.row 0),(1,vi x1),(9,vi s1.1),(10,vi s1.2.1)]) (fun s1=>[(0,.row 23 (.int .u64) s1.2.2)]) rfl rfl (fun s1 o1 F1 ih1 hr1=>?_))
 unfold F_slices_partitionEqualOrdered_uint64_b1 at F1
 refine run_again ?_
 obtain ⟨r2,hl2,F1⟩:=obd F1
 refine bk rfl (sq rfl (bk rfl ?_))
 refine run_cutx 2 rfl (fun r2'=>r2=r2') (fun r2=>[(0,.row 0),(1,vi x1),(9,vi r2),(10,vi s1.2.1)]) (fun r2=>[(0,.row 23 (.int .u64) s1.2.2)]) (fun r2' h6=>?_) (fun J2_0=>?_)
 ·subst h6
  obtain ⟨r3,hl3,F1⟩:=obd F1
  refine sq rfl (bk rfl ?_)
  refine run_cutx 4 rfl (fun r3'=>r3=r3') (fun r3=>[(0,.row 0),(1,vi x1),(9,vi r2),(10,vi r3)]) (fun r3=>[(0,.row 23 (.int .u64) s1.2.2)]) (fun r3' h7=>?_) (fun J3_0=>?_)
  ·subst h7
   refine sq rfl (sq rfl (rB [(0,.row 0),(1,vi x1),(9,vi r2),(10,vi r3),(64,vb (decide (r2>r3)))] [(0,.row 23 (.int .u64) s1.2.2)] 5000 rfl c0 ?_))
   refine run_if rfl rfl (fun h8=>?_) (fun h8=>?_)
   ·replace F1:=ift h8 F1
    refine run_exit rfl rfl (tm (ρ':=[(9,vi r2)]) (H':=[(0,.row 23 (.int .u64) s1.2.2)]) (by kernel_rfl) (by kernel_rfl) rfl ?_)
    exact J1_0 _ (inrI hr1 F1).symm
   ·replace F1:=ifn h8 F1
    obtain ⟨h9,F1⟩:=ifg F1
    obtain ⟨h10,F1⟩:=ifg F1
    obtain ⟨h11,F1⟩:=ifg F1
    obtain ⟨h12,F1⟩:=ifg F1
    refine sk rfl (sq rfl ?_)
    refine sE (gE [0,1,9,10] [0] [] [] 5000 rfl rfl (qE rfl (oE [0,1,9,10] [0] 5000 rfl (oE [0,1,9,10] [0] 5000 rfl (fA [(0,.row 0),(1,vi x1),(9,vi (wrap .i64 (r2+1))),(10,vi (wrap .i64 (r3-1)))] [(0,.row 23 (.int .u64) (List.set (List.set s1.2.2 (toNat r2) (getD s1.2.2 (toNat r3) 0)) (toNat r3) (getD s1.2.2 (toNat r2) 0)))] (cc h9 (cc (@rfl Nat (toNat r3*1)) (cc (oo h9 trivial) (cc h10 (cc (@rfl Nat (toNat r2*1)) (cc (oo h10 trivial) (cc h11 (cc (@rfl Nat (toNat r2*1)) (cc (oo h11 trivial) (cc h12 (cc (@rfl Nat (toNat r3*1)) (cc (oo h12 trivial) c0)))))))))))) (eb ?_))))))
    exact ih1 _ (inj F1).symm
  refine run_loop rfl (run_loopO hl3 (fun s3=>[(0,.row 0),(1,vi x1),(9,vi r2),(10,vi s3)]) (fun s3=>[(0,.row 23 (.int .u64) s1.2.2)]) rfl rfl (fun s3 o3 F2 ih3 hr3=>?_))
  unfold F_slices_partitionEqualOrdered_uint64_b3 at F2
  refine run_again ?_
  obtain ⟨r4,F3,F2⟩:=obd F2
  refine sq rfl (sq rfl ?_)
  refine run_cut (fun r4'=>r4=r4') (fun r4=>[(0,.row 0),(1,vi x1),(9,vi r2),(10,vi s3),(59,vb r4)]) (fun r4=>[(0,.row 23 (.int .u64) s1.2.2)]) (fun r4' h13=>?_) (fun J4_0=>?_)
  ·subst h13
   refine run_if rfl rfl (fun h14=>?_) (fun h14=>?_)
   ·replace F2:=ift h14 F2
    refine sk rfl (bk rfl (rB [(0,.row 0),(1,vi x1),(9,vi r2),(10,vi (wrap .i64 (s3-1)))] [(0,.row 23 (.int .u64) s1.2.2)] 5000 rfl c0 (eb ?_)))
    exact ih3 _ (inj F2).symm
   ·replace F2:=ifn h14 F2
    refine run_exit rfl rfl (tm (ρ':=[(0,.row 0),(1,vi x1),(9,vi r2),(10,vi s3)]) (H':=[(0,.row 23 (.int .u64) s1.2.2)]) (by kernel_rfl) (by kernel_rfl) rfl ?_)
    exact J3_0 _ (inrI hr3 F2).symm
  rcases Bool.eq_false_or_eq_true (decide (r2≤s3)) with h15|h15
  ·replace F3:=ift h15 F3
   obtain ⟨h16,F3⟩:=ifg F3
   obtain ⟨h17,F3⟩:=ifg F3
   obtain ⟨t1,h18,F3⟩:=obd F3
   refine rC [(0,.row 0),(1,vi x1),(9,vi r2),(10,vi s3),(59,vb t1)] [(0,.row 23 (.int .u64) s1.2.2)] [(12,⟨[.v (.int .u64),.v (.int .u64)],vb t1,none⟩)] [(3,true)] 5000 rfl (cc h15 (cc h16 (cc (@rfl Nat (toNat x1*1)) (cc (oo h16 trivial) (cc h17 (cc (@rfl Nat (toNat s3*1)) (cc (oo h17 trivial) (cc (W_cmp_Less_uint64 h18) c0)))))))) ?_
   exact J4_0 _ (inj F3).symm
  ·replace F3:=ifn h15 F3
   refine rC [(0,.row 0),(1,vi x1),(9,vi r2),(10,vi s3),(59,vb false)] [(0,.row 23 (.int .u64) s1.2.2)] [] [(3,false)] 5000 rfl (cc h15 c0) ?_
   exact J4_0 _ (inj F3).symm
 refine run_loop rfl (run_loopO hl2 (fun s2=>[(0,.row 0),(1,vi x1),(9,vi s2),(10,vi s1.2.1)]) (fun s2=>[(0,.row 23 (.int .u64) s1.2.2)]) rfl rfl (fun s2 o2 F2 ih2 hr2=>?_))
 unfold F_slices_partitionEqualOrdered_uint64_b2 at F2
 refine run_again ?_
 obtain ⟨r5,F3,F2⟩:=obd F2
 refine sq rfl (sq rfl ?_)
 refine run_cut (fun r5'=>r5=r5') (fun r5=>[(0,.row 0),(1,vi x1),(9,vi s2),(10,vi s1.2.1),(43,vb r5)]) (fun r5=>[(0,.row 23 (.int .u64) s1.2.2)]) (fun r5' h19=>?_) (fun J5_0=>?_)
 ·subst h19
  refine run_if rfl rfl (fun h20=>?_) (fun h20=>?_)
  ·replace F2:=ift h20 F2
   refine sk rfl (bk rfl (rB [(0,.row 0),(1,vi x1),(9,vi (wrap .i64 (s2+1))),(10,vi s1.2.1)] [(0,.row 23 (.int .u64) s1.2.2)] 5000 rfl c0 (eb ?_)))
   exact ih2 _ (inj F2).symm
  ·replace F2:=ifn h20 F2
   refine run_exit rfl rfl (tm (ρ':=[(0,.row 0),(1,vi x1),(9,vi s2),(10,vi s1.2.1)]) (H':=[(0,.row 23 (.int .u64) s1.2.2)]) (by kernel_rfl) (by kernel_rfl) rfl ?_)
   exact J2_0 _ (inrI hr2 F2).symm
 rcases Bool.eq_false_or_eq_true (decide (s2≤s1.2.1)) with h21|h21
 ·replace F3:=ift h21 F3
  obtain ⟨h22,F3⟩:=ifg F3
  obtain ⟨h23,F3⟩:=ifg F3
  obtain ⟨t2,h24,F3⟩:=obd F3
  refine rC [(0,.row 0),(1,vi x1),(9,vi s2),(10,vi s1.2.1),(43,vb (!t2))] [(0,.row 23 (.int .u64) s1.2.2)] [(12,⟨[.v (.int .u64),.v (.int .u64)],vb t2,none⟩)] [(3,true)] 5000 rfl (cc h21 (cc h22 (cc (@rfl Nat (toNat x1*1)) (cc (oo h22 trivial) (cc h23 (cc (@rfl Nat (toNat s2*1)) (cc (oo h23 trivial) (cc (W_cmp_Less_uint64 h24) c0)))))))) ?_
  exact J5_0 _ (inj F3).symm
 ·replace F3:=ifn h21 F3
  refine rC [(0,.row 0),(1,vi x1),(9,vi s2),(10,vi s1.2.1),(43,vb false)] [(0,.row 23 (.int .u64) s1.2.2)] [] [(3,false)] 5000 rfl (cc h21 c0) ?_
  exact J5_0 _ (inj F3).symm
noncomputable def F_slices_partitionOrdered_uint64_b5 (r4:Int) (s3:(Int×Int×(List Int))) (x1:Int) (s5:Int):Option (Int⊕Int) :=
 (show Option Bool from if (decide (r4≤s5))=true then if 0≤s5∧s5<((length s3.2.2:Nat):Int) then (if 0≤x1∧x1<((length s3.2.2:Nat):Int) then (F_cmp_Less_uint64 (getD s3.2.2 (toNat s5) 0) (getD s3.2.2 (toNat x1) 0)).bind fun t1=>(some (!t1)) else none) else none else some false).bind (fun r6=>if (r6)=true then some (Sum.inl (wrap .i64 (s5-1))) else some (Sum.inr s5))
noncomputable def F_slices_partitionOrdered_uint64_b4 (s3:(Int×Int×(List Int))) (x1:Int) (s4:Int):Option (Int⊕Int) :=
 (show Option Bool from if (decide (s4≤s3.2.1))=true then if 0≤s4∧s4<((length s3.2.2:Nat):Int) then (if 0≤x1∧x1<((length s3.2.2:Nat):Int) then (F_cmp_Less_uint64 (getD s3.2.2 (toNat s4) 0) (getD s3.2.2 (toNat x1) 0)).bind fun t2=>(some t2) else none) else none else some false).bind (fun r7=>if (r7)=true then some (Sum.inl (wrap .i64 (s4+1))) else some (Sum.inr s4))
noncomputable def F_slices_partitionOrdered_uint64_b3 (x1:Int) (s3:(Int×Int×(List Int))):Option ((Int×Int×(List Int))⊕(Int×(List Int))) :=
 (loopO (F_slices_partitionOrdered_uint64_b4 s3 x1) s3.1).bind (fun r4=>(loopO (F_slices_partitionOrdered_uint64_b5 r4 s3 x1) s3.2.1).bind (fun r5=>if (decide (r4>r5))=true then some (Sum.inr (r5,s3.2.2)) else if 0≤r5∧r5<((length s3.2.2:Nat):Int) then (if 0≤r4∧r4<((length s3.2.2:Nat):Int) then (if 0≤r4∧r4<((length s3.2.2:Nat):Int) then (if 0≤r5∧r5<((length (List.set s3.2.2 (toNat r4) (getD s3.2.2 (toNat r5) 0)):Nat):Int) then (some (Sum.inl (wrap .i64 (r4+1),wrap .i64 (r5-1),List.set (List.set s3.2.2 (toNat r4) (getD s3.2.2 (toNat r5) 0)) (toNat r5) (getD s3.2.2 (toNat r4) 0)))) else none) else none) else none) else none))
noncomputable def F_slices_partitionOrdered_uint64_b2 (r1:Int) (x0:(List Int)) (x1:Int) (x3:Int) (s2:Int):Option (Int⊕Int) :=
 (show Option Bool from if (decide (r1≤s2))=true then if 0≤s2∧s2<((length (List.set (List.set x0 (toNat x1) (getD x0 (toNat x3) 0)) (toNat x3) (getD x0 (toNat x1) 0)):Nat):Int) then (if 0≤x1∧x1<((length (List.set (List.set x0 (toNat x1) (getD x0 (toNat x3) 0)) (toNat x3) (getD x0 (toNat x1) 0)):Nat):Int) then (F_cmp_Less_uint64 (getD (List.set (List.set x0 (toNat x1) (getD x0 (toNat x3) 0)) (toNat x3) (getD x0 (toNat x1) 0)) (toNat s2) 0) (getD (List.set (List.set x0 (toNat x1) (getD x0 (toNat x3) 0)) (toNat x3) (getD x0 (toNat x1) 0)) (toNat x1) 0)).bind fun t3=>(some (!t3)) else none) else none else some false).bind (fun r8=>if (r8)=true then some (Sum.inl (wrap .i64 (s2-1))) else some (Sum.inr s2))
noncomputable def F_slices_partitionOrdered_uint64_b1 (x0:(List Int)) (x1:Int) (x2:Int) (x3:Int) (s1:Int):Option (Int⊕Int) :=
 (show Option Bool from if (decide (s1≤(wrap .i64 (x2-1))))=true then if 0≤s1∧s1<((length (List.set (List.set x0 (toNat x1) (getD x0 (toNat x3) 0)) (toNat x3) (getD x0 (toNat x1) 0)):Nat):Int) then (if 0≤x1∧x1<((length (List.set (List.set x0 (toNat x1) (getD x0 (toNat x3) 0)) (toNat x3) (getD x0 (toNat x1) 0)):Nat):Int) then (F_cmp_Less_uint64 (getD (List.set (List.set x0 (toNat x1) (getD x0 (toNat x3) 0)) (toNat x3) (getD x0 (toNat x1) 0)) (toNat s1) 0) (getD (List.set (List.set x0 (toNat x1) (getD x0 (toNat x3) 0)) (toNat x3) (getD x0 (toNat x1) 0)) (toNat x1) 0)).bind fun t4=>(some t4) else none) else none else some false).bind (fun r9=>if (r9)=true then some (Sum.inl (wrap .i64 (s1+1))) else some (Sum.inr s1))
noncomputable def F_slices_partitionOrdered_uint64 (x0:(List Int)) (x1:Int) (x2:Int) (x3:Int):Option (Int×Bool×(List Int)) :=
 if 0≤x3∧x3<((length x0:Nat):Int) then (if 0≤x1∧x1<((length x0:Nat):Int) then (if 0≤x1∧x1<((length x0:Nat):Int) then (if 0≤x3∧x3<((length (List.set x0 (toNat x1) (getD x0 (toNat x3) 0)):Nat):Int) then (loopO (F_slices_partitionOrdered_uint64_b1 x0 x1 x2 x3) (wrap .i64 (x1+1))).bind (fun r1=>(loopO (F_slices_partitionOrdered_uint64_b2 r1 x0 x1 x3) (wrap .i64 (x2-1))).bind (fun r2=>if (decide (r1>r2))=true then if 0≤x1∧x1<((length (List.set (List.set x0 (toNat x1) (getD x0 (toNat x3) 0)) (toNat x3) (getD x0 (toNat x1) 0)):Nat):Int) then (if 0≤r2∧r2<((length (List.set (List.set x0 (toNat x1) (getD x0 (toNat x3) 0)) (toNat x3) (getD x0 (toNat x1) 0)):Nat):Int) then (if 0≤r2∧r2<((length (List.set (List.set x0 (toNat x1) (getD x0 (toNat x3) 0)) (toNat x3) (getD x0 (toNat x1) 0)):Nat):Int) then (if 0≤x1∧x1<((length (List.set (List.set (List.set x0 (toNat x1) (getD x0 (toNat x3) 0)) (toNat x3) (getD x0 (toNat x1) 0)) (toNat r2) (getD (List.set (List.set x0 (toNat x1) (getD x0 (toNat x3) 0)) (toNat x3) (getD x0 (toNat x1) 0)) (toNat x1) 0)):Nat):Int) then (some (r2,true,List.set (List.set (List.set (List.set x0 (toNat x1) (getD x0 (toNat x3) 0)) (toNat x3) (getD x0 (toNat x1) 0)) (toNat r2) (getD (List.set (List.set x0 (toNat x1) (getD x0 (toNat x3) 0)) (toNat x3) (getD x0 (toNat x1) 0)) (toNat x1) 0)) (toNat x1) (getD (List.set (List.set x0 (toNat x1) (getD x0 (toNat x3) 0)) (toNat x3) (getD x0 (toNat x1) 0)) (toNat r2) 0))) else none) else none) else none) else none else if 0≤r2∧r2<((length (List.set (List.set x0 (toNat x1) (getD x0 (toNat x3) 0)) (toNat x3) (getD x0 (toNat x1) 0)):Nat):Int) then (if 0≤r1∧r1<((length (List.set (List.set x0 (toNat x1) (getD x0 (toNat x3) 0)) (toNat x3) (getD x0 (toNat x1) 0)):Nat):Int) then (if 0≤r1∧r1<((length (List.set (List.set x0 (toNat x1) (getD x0 (toNat x3) 0)) (toNat x3) (getD x0 (toNat x1) 0)):Nat):Int) then (if 0≤r2∧r2<((length (List.set (List.set (List.set x0 (toNat x1) (getD x0 (toNat x3) 0)) (toNat x3) (getD x0 (toNat x1) 0)) (toNat r1) (getD (List.set (List.set x0 (toNat x1) (getD x0 (toNat x3) 0)) (toNat x3) (getD x0 (toNat x1) 0)) (toNat r2) 0)):Nat):Int) then (loopO (F_slices_partitionOrdered_uint64_b3 x1) (wrap .i64 (r1+1),wrap .i64 (r2-1),List.set (List.set (List.set (List.set x0 (toNat x1) (getD x0 (toNat x3) 0)) (toNat x3) (getD x0 (toNat x1) 0)) (toNat r1) (getD (List.set (List.set x0 (toNat x1) (getD x0 (toNat x3) 0)) (toNat x3) (getD x0 (toNat x1) 0)) (toNat r2) 0)) (toNat r2) (getD (List.set (List.set x0 (toNat x1) (getD x0 (toNat x3) 0)) (toNat x3) (getD x0 (toNat x1) 0)) (toNat r1) 0))).bind (fun r3=>if 0≤x1∧x1<((length r3.2:Nat):Int) then (if 0≤r3.1∧r3.1<((length r3.2:Nat):Int) then (if 0≤r3.1∧r3.1<((length r3.2:Nat):Int) then (if 0≤x1∧x1<((length (List.set r3.2 (toNat r3.1) (getD r3.2 (toNat x1) 0)):Nat):Int) then (some (r3.1,false,List.set (List.set r3.2 (toNat r3.1) (getD r3.2 (toNat x1) 0)) (toNat x1) (getD r3.2 (toNat r3.1) 0))) else none) else none) else none) else none) else none) else none) else none) else none)) else none) else none) else none) else none
theorem W_slices_partitionOrdered_uint64 {x0:(List Int)} {x1:Int} {x2:Int} {x3:Int} {y:(Int×Bool×(List Int))} (F0:F_slices_partitionOrdered_uint64 x0 x1 x2 x3=some y):Mut Tryz.prog 241 1 [.row 0,vi x1,vi x2,vi x3] [(0,.row 23 (.int .u64) x0)] (.tup [vi y.1,vb y.2.1]) [(0,.row 23 (.int .u64) y.2.2)]:=by
 unfold F_slices_partitionOrdered_uint64 at F0
 refine mut_of_run @Tryz.call241 @Tryz.func241 rfl rfl fun b=>?_
 obtain ⟨h1,F0⟩:=ifg F0
 obtain ⟨h2,F0⟩:=ifg F0
 obtain ⟨h3,F0⟩:=ifg F0
 obtain ⟨h4,F0⟩:=ifg F0
 obtain ⟨r1,hl1,F0⟩:=obd F0
 refine sq rfl ?_
 refine sE (oE [0,1,2,3] [0] 5000 rfl (qE rfl (gE [0,1,2] [0] [] [] 5000 rfl rfl (qE rfl (oE [0,1,10,11] [0] 5000 rfl (fA [(0,.row 0),(1,vi x1),(10,vi (wrap .i64 (x1+1))),(11,vi (wrap .i64 (x2-1)))] [(0,.row 23 (.int .u64) (List.set (List.set x0 (toNat x1) (getD x0 (toNat x3) 0)) (toNat x3) (getD x0 (toNat x1) 0)))] (cc h1 (cc (@rfl Nat (toNat x3*1)) (cc (oo h1 trivial) (cc h2 (cc (@rfl Nat (toNat x1*1)) (cc (oo h2 trivial) (cc h3 (cc (@rfl Nat (toNat x1*1)) (cc (oo h3 trivial) (cc h4 (cc (@rfl Nat (toNat x3*1)) (cc (oo h4 trivial) c0)))))))))))) (sq rfl (bk rfl ?_))))))))
 refine run_cutx 0 rfl (fun r1'=>r1=r1') (fun r1=>[(0,.row 0),(1,vi x1),(10,vi r1),(11,vi (wrap .i64 (x2-1)))]) (fun r1=>[(0,.row 23 (.int .u64) (List.set (List.set x0 (toNat x1) (getD x0 (toNat x3) 0)) (toNat x3) (getD x0 (toNat x1) 0)))]) (fun r1' h5=>?_) (fun J1_0=>?_)
 ·subst h5
  obtain ⟨r2,hl2,F0⟩:=obd F0
  refine sq rfl (bk rfl ?_)
  refine run_cutx 2 rfl (fun r2'=>r2=r2') (fun r2=>[(0,.row 0),(1,vi x1),(10,vi r1),(11,vi r2)]) (fun r2=>[(0,.row 23 (.int .u64) (List.set (List.set x0 (toNat x1) (getD x0 (toNat x3) 0)) (toNat x3) (getD x0 (toNat x1) 0)))]) (fun r2' h6=>?_) (fun J2_0=>?_)
  ·subst h6
   refine sq rfl (sq rfl (rB [(0,.row 0),(1,vi x1),(10,vi r1),(11,vi r2),(65,vb (decide (r1>r2)))] [(0,.row 23 (.int .u64) (List.set (List.set x0 (toNat x1) (getD x0 (toNat x3) 0)) (toNat x3) (getD x0 (toNat x1) 0)))] 5000 rfl c0 ?_))
   refine run_if rfl rfl (fun h7=>?_) (fun h7=>?_)
   ·replace F0:=ift h7 F0
    obtain ⟨h8,F0⟩:=ifg F0
    obtain ⟨h9,F0⟩:=ifg F0
    obtain ⟨h10,F0⟩:=ifg F0
    obtain ⟨h11,F0⟩:=ifg F0
    refine sq rfl ?_
    refine sE (gE [11] [0] [] [] 5000 rfl rfl (qE rfl (oE [8,9] [0] 5000 rfl (fA [(8,vi r2),(9,vb true)] [(0,.row 23 (.int .u64) (List.set (List.set (List.set (List.set x0 (toNat x1) (getD x0 (toNat x3) 0)) (toNat x3) (getD x0 (toNat x1) 0)) (toNat r2) (getD (List.set (List.set x0 (toNat x1) (getD x0 (toNat x3) 0)) (toNat x3) (getD x0 (toNat x1) 0)) (toNat x1) 0)) (toNat x1) (getD (List.set (List.set x0 (toNat x1) (getD x0 (toNat x3) 0)) (toNat x3) (getD x0 (toNat x1) 0)) (toNat r2) 0)))] (cc h8 (cc (@rfl Nat (toNat x1*1)) (cc (oo h8 trivial) (cc h9 (cc (@rfl Nat (toNat r2*1)) (cc (oo h9 trivial) (cc h10 (cc (@rfl Nat (toNat r2*1)) (cc (oo h10 trivial) (cc h11 (cc (@rfl Nat (toNat x1*1)) (cc (oo h11 trivial) c0)))))))))))) ?_))))
    obtain rfl:=inj F0
    exact ret_mut (q:=[vi r2,vb true]) [some (.int .i64),some .bool] [0] rfl rfl (by kernel_rfl) rfl (by kernel_rfl)
   ·replace F0:=ifn h7 F0
    obtain ⟨h12,F0⟩:=ifg F0
    obtain ⟨h13,F0⟩:=ifg F0
    obtain ⟨h14,F0⟩:=ifg F0
    obtain ⟨h15,F0⟩:=ifg F0
    obtain ⟨r3,hl3,F0⟩:=obd F0
    refine sk rfl (sq rfl ?_)
    refine sE (gE [0,1,10,11] [0] [] [] 5000 rfl rfl (qE rfl (oE [0,1,10,11] [0] 5000 rfl (qE rfl (oE [0,1,10,11] [0] 5000 rfl (fA [(0,.row 0),(1,vi x1),(10,vi (wrap .i64 (r1+1))),(11,vi (wrap .i64 (r2-1)))] [(0,.row 23 (.int .u64) (List.set (List.set (List.set (List.set x0 (toNat x1) (getD x0 (toNat x3) 0)) (toNat x3) (getD x0 (toNat x1) 0)) (toNat r1) (getD (List.set (List.set x0 (toNat x1) (getD x0 (toNat x3) 0)) (toNat x3) (getD x0 (toNat x1) 0)) (toNat r2) 0)) (toNat r2) (getD (List.set (List.set x0 (toNat x1) (getD x0 (toNat x3) 0)) (toNat x3) (getD x0 (toNat x1) 0)) (toNat r1) 0)))] (cc h12 (cc (@rfl Nat (toNat r2*1)) (cc (oo h12 trivial) (cc h13 (cc (@rfl Nat (toNat r1*1)) (cc (oo h13 trivial) (cc h14 (cc (@rfl Nat (toNat r1*1)) (cc (oo h14 trivial) (cc h15 (cc (@rfl Nat (toNat r2*1)) (cc (oo h15 trivial) c0)))))))))))) (sq rfl (bk rfl ?_))))))))
    refine run_cutx 4 rfl (fun r3'=>r3=r3') (fun r3=>[(0,.row 0),(1,vi x1),(11,vi r3.1)]) (fun r3=>[(0,.row 23 (.int .u64) r3.2)]) (fun r3' h16=>?_) (fun J3_0=>?_)
    ·subst h16
     obtain ⟨h17,F0⟩:=ifg F0
     obtain ⟨h18,F0⟩:=ifg F0
     obtain ⟨h19,F0⟩:=ifg F0
     obtain ⟨h20,F0⟩:=ifg F0
     refine sq rfl ?_
     refine sE (gE [11] [0] [] [] 5000 rfl rfl (qE rfl (oE [8,9] [0] 5000 rfl (fA [(8,vi r3.1),(9,vb false)] [(0,.row 23 (.int .u64) (List.set (List.set r3.2 (toNat r3.1) (getD r3.2 (toNat x1) 0)) (toNat x1) (getD r3.2 (toNat r3.1) 0)))] (cc h17 (cc (@rfl Nat (toNat x1*1)) (cc (oo h17 trivial) (cc h18 (cc (@rfl Nat (toNat r3.1*1)) (cc (oo h18 trivial) (cc h19 (cc (@rfl Nat (toNat r3.1*1)) (cc (oo h19 trivial) (cc h20 (cc (@rfl Nat (toNat x1*1)) (cc (oo h20 trivial) c0)))))))))))) ?_))))
     obtain rfl:=inj F0
     exact ret_mut (q:=[vi r3.1,vb false]) [some (.int .i64),some .bool] [0] rfl rfl (by kernel_rfl) rfl (by kernel_rfl)
    refine run_loop rfl (run_loopO hl3 (fun s3=>[(0,.row 0),(1,vi x1),(10,vi s3.1),(11,vi s3.2.1)]) (fun s3=>[(0,.row 23 (.int .u64) s3.2.2)]) rfl rfl (fun s3 o3 F1 ih3 hr3=>?_))
    unfold F_slices_partitionOrdered_uint64_b3 at F1
    refine run_again ?_
    obtain ⟨r4,hl4,F1⟩:=obd F1
    refine bk rfl (sq rfl (bk rfl ?_))
    refine run_cutx 6 rfl (fun r4'=>r4=r4') (fun r4=>[(0,.row 0),(1,vi x1),(10,vi r4),(11,vi s3.2.1)]) (fun r4=>[(0,.row 23 (.int .u64) s3.2.2)]) (fun r4' h21=>?_) (fun J4_0=>?_)
    ·subst h21
     obtain ⟨r5,hl5,F1⟩:=obd F1
     refine sq rfl (bk rfl ?_)
     refine run_cutx 8 rfl (fun r5'=>r5=r5') (fun r5=>[(0,.row 0),(1,vi x1),(10,vi r4),(11,vi r5)]) (fun r5=>[(0,.row 23 (.int .u64) s3.2.2)]) (fun r5' h22=>?_) (fun J5_0=>?_)
     ·subst h22
      refine sq rfl (sq rfl (rB [(0,.row 0),(1,vi x1),(10,vi r4),(11,vi r5),(134,vb (decide (r4>r5)))] [(0,.row 23 (.int .u64) s3.2.2)] 5000 rfl c0 ?_))
      refine run_if rfl rfl (fun h23=>?_) (fun h23=>?_)
      ·replace F1:=ift h23 F1
       refine run_exit rfl rfl (tm (ρ':=[(0,.row 0),(1,vi x1),(11,vi r5)]) (H':=[(0,.row 23 (.int .u64) s3.2.2)]) (by kernel_rfl) (by kernel_rfl) rfl ?_)
       exact J3_0 _ (inrI hr3 F1).symm
      ·replace F1:=ifn h23 F1
       obtain ⟨h24,F1⟩:=ifg F1
       obtain ⟨h25,F1⟩:=ifg F1
       obtain ⟨h26,F1⟩:=ifg F1
       obtain ⟨h27,F1⟩:=ifg F1
       refine sk rfl (sq rfl ?_)
       refine sE (gE [0,1,10,11] [0] [] [] 5000 rfl rfl (qE rfl (oE [0,1,10,11] [0] 5000 rfl (oE [0,1,10,11] [0] 5000 rfl (fA [(0,.row 0),(1,vi x1),(10,vi (wrap .i64 (r4+1))),(11,vi (wrap .i64 (r5-1)))] [(0,.row 23 (.int .u64) (List.set (List.set s3.2.2 (toNat r4) (getD s3.2.2 (toNat r5) 0)) (toNat r5) (getD s3.2.2 (toNat r4) 0)))] (cc h24 (cc (@rfl Nat (toNat r5*1)) (cc (oo h24 trivial) (cc h25 (cc (@rfl Nat (toNat r4*1)) (cc (oo h25 trivial) (cc h26 (cc (@rfl Nat (toNat r4*1)) (cc (oo h26 trivial) (cc h27 (cc (@rfl Nat (toNat r5*1)) (cc (oo h27 trivial) c0)))))))))))) (eb ?_))))))
       exact ih3 _ (inj F1).symm
     refine run_loop rfl (run_loopO hl5 (fun s5=>[(0,.row 0),(1,vi x1),(10,vi r4),(11,vi s5)]) (fun s5=>[(0,.row 23 (.int .u64) s3.2.2)]) rfl rfl (fun s5 o5 F2 ih5 hr5=>?_))
     unfold F_slices_partitionOrdered_uint64_b5 at F2
     refine run_again ?_
     obtain ⟨r6,F3,F2⟩:=obd F2
     refine sq rfl (sq rfl ?_)
     refine run_cut (fun r6'=>r6=r6') (fun r6=>[(0,.row 0),(1,vi x1),(10,vi r4),(11,vi s5),(129,vb r6)]) (fun r6=>[(0,.row 23 (.int .u64) s3.2.2)]) (fun r6' h28=>?_) (fun J6_0=>?_)
     ·subst h28
      refine run_if rfl rfl (fun h29=>?_) (fun h29=>?_)
      ·replace F2:=ift h29 F2
       refine sk rfl (bk rfl (rB [(0,.row 0),(1,vi x1),(10,vi r4),(11,vi (wrap .i64 (s5-1)))] [(0,.row 23 (.int .u64) s3.2.2)] 5000 rfl c0 (eb ?_)))
       exact ih5 _ (inj F2).symm
      ·replace F2:=ifn h29 F2
       refine run_exit rfl rfl (tm (ρ':=[(0,.row 0),(1,vi x1),(10,vi r4),(11,vi s5)]) (H':=[(0,.row 23 (.int .u64) s3.2.2)]) (by kernel_rfl) (by kernel_rfl) rfl ?_)
       exact J5_0 _ (inrI hr5 F2).symm
     rcases Bool.eq_false_or_eq_true (decide (r4≤s5)) with h30|h30
     ·replace F3:=ift h30 F3
      obtain ⟨h31,F3⟩:=ifg F3
      obtain ⟨h32,F3⟩:=ifg F3
      obtain ⟨t1,h33,F3⟩:=obd F3
      refine rC [(0,.row 0),(1,vi x1),(10,vi r4),(11,vi s5),(129,vb (!t1))] [(0,.row 23 (.int .u64) s3.2.2)] [(12,⟨[.v (.int .u64),.v (.int .u64)],vb t1,none⟩)] [(3,true)] 5000 rfl (cc h30 (cc h31 (cc (@rfl Nat (toNat s5*1)) (cc (oo h31 trivial) (cc h32 (cc (@rfl Nat (toNat x1*1)) (cc (oo h32 trivial) (cc (W_cmp_Less_uint64 h33) c0)))))))) ?_
      exact J6_0 _ (inj F3).symm
     ·replace F3:=ifn h30 F3
      refine rC [(0,.row 0),(1,vi x1),(10,vi r4),(11,vi s5),(129,vb false)] [(0,.row 23 (.int .u64) s3.2.2)] [] [(3,false)] 5000 rfl (cc h30 c0) ?_
      exact J6_0 _ (inj F3).symm
    refine run_loop rfl (run_loopO hl4 (fun s4=>[(0,.row 0),(1,vi x1),(10,vi s4),(11,vi s3.2.1)]) (fun s4=>[(0,.row 23 (.int .u64) s3.2.2)]) rfl rfl (fun s4 o4 F2 ih4 hr4=>?_))
    unfold F_slices_partitionOrdered_uint64_b4 at F2
    refine run_again ?_
    obtain ⟨r7,F3,F2⟩:=obd F2
    refine sq rfl (sq rfl ?_)
    refine run_cut (fun r7'=>r7=r7') (fun r7=>[(0,.row 0),(1,vi x1),(10,vi s4),(11,vi s3.2.1),(112,vb r7)]) (fun r7=>[(0,.row 23 (.int .u64) s3.2.2)]) (fun r7' h34=>?_) (fun J7_0=>?_)
    ·subst h34
     refine run_if rfl rfl (fun h35=>?_) (fun h35=>?_)
     ·replace F2:=ift h35 F2
      refine sk rfl (bk rfl (rB [(0,.row 0),(1,vi x1),(10,vi (wrap .i64 (s4+1))),(11,vi s3.2.1)] [(0,.row 23 (.int .u64) s3.2.2)] 5000 rfl c0 (eb ?_)))
      exact ih4 _ (inj F2).symm
     ·replace F2:=ifn h35 F2
      refine run_exit rfl rfl (tm (ρ':=[(0,.row 0),(1,vi x1),(10,vi s4),(11,vi s3.2.1)]) (H':=[(0,.row 23 (.int .u64) s3.2.2)]) (by kernel_rfl) (by kernel_rfl) rfl ?_)
      exact J4_0 _ (inrI hr4 F2).symm
    rcases Bool.eq_false_or_eq_true (decide (s4≤s3.2.1)) with h36|h36
    ·replace F3:=ift h36 F3
     obtain ⟨h37,F3⟩:=ifg F3
     obtain ⟨h38,F3⟩:=ifg F3
     obtain ⟨t2,h39,F3⟩:=obd F3
     refine rC [(0,.row 0),(1,vi x1),(10,vi s4),(11,vi s3.2.1),(112,vb t2)] [(0,.row 23 (.int .u64) s3.2.2)] [(12,⟨[.v (.int .u64),.v (.int .u64)],vb t2,none⟩)] [(3,true)] 5000 rfl (cc h36 (cc h37 (cc (@rfl Nat (toNat s4*1)) (cc (oo h37 trivial) (cc h38 (cc (@rfl Nat (toNat x1*1)) (cc (oo h38 trivial) (cc (W_cmp_Less_uint64 h39) c0)))))))) ?_
     exact J7_0 _ (inj F3).symm
    ·replace F3:=ifn h36 F3
     refine rC [(0,.row 0),(1,vi x1),(10,vi s4),(11,vi s3.2.1),(112,vb false)] [(0,.row 23 (.int .u64) s3.2.2)] [] [(3,false)] 5000 rfl (cc h36 c0) ?_
     exact J7_0 _ (inj F3).symm
  refine run_loop rfl (run_loopO hl2 (fun s2=>[(0,.row 0),(1,vi x1),(10,vi r1),(11,vi s2)]) (fun s2=>[(0,.row 23 (.int .u64) (List.set (List.set x0 (toNat x1) (getD x0 (toNat x3) 0)) (toNat x3) (getD x0 (toNat x1) 0)))]) rfl rfl (fun s2 o2 F1 ih2 hr2=>?_))
  unfold F_slices_partitionOrdered_uint64_b2 at F1
  refine run_again ?_
  obtain ⟨r8,F2,F1⟩:=obd F1
  refine sq rfl (sq rfl ?_)
  refine run_cut (fun r8'=>r8=r8') (fun r8=>[(0,.row 0),(1,vi x1),(10,vi r1),(11,vi s2),(60,vb r8)]) (fun r8=>[(0,.row 23 (.int .u64) (List.set (List.set x0 (toNat x1) (getD x0 (toNat x3) 0)) (toNat x3) (getD x0 (toNat x1) 0)))]) (fun r8' h40=>?_) (fun J8_0=>?_)
  ·subst h40
   refine run_if rfl rfl (fun h41=>?_) (fun h41=>?_)
   ·replace F1:=ift h41 F1
    refine sk rfl (bk rfl (rB [(0,.row 0),(1,vi x1),(10,vi r1),(11,vi (wrap .i64 (s2-1)))] [(0,.row 23 (.int .u64) (List.set (List.set x0 (toNat x1) (getD x0 (toNat x3) 0)) (toNat x3) (getD x0 (toNat x1) 0)))] 5000 rfl c0 (eb ?_)))
    exact ih2 _ (inj F1).symm
   ·replace F1:=ifn h41 F1
    refine run_exit rfl rfl (tm (ρ':=[(0,.row 0),(1,vi x1),(10,vi r1),(11,vi s2)]) (H':=[(0,.row 23 (.int .u64) (List.set (List.set x0 (toNat x1) (getD x0 (toNat x3) 0)) (toNat x3) (getD x0 (toNat x1) 0)))]) (by kernel_rfl) (by kernel_rfl) rfl ?_)
    exact J2_0 _ (inrI hr2 F1).symm
  rcases Bool.eq_false_or_eq_true (decide (r1≤s2)) with h42|h42
  ·replace F2:=ift h42 F2
   obtain ⟨h43,F2⟩:=ifg F2
   obtain ⟨h44,F2⟩:=ifg F2
   obtain ⟨t3,h45,F2⟩:=obd F2
   refine rC [(0,.row 0),(1,vi x1),(10,vi r1),(11,vi s2),(60,vb (!t3))] [(0,.row 23 (.int .u64) (List.set (List.set x0 (toNat x1) (getD x0 (toNat x3) 0)) (toNat x3) (getD x0 (toNat x1) 0)))] [(12,⟨[.v (.int .u64),.v (.int .u64)],vb t3,none⟩)] [(3,true)] 5000 rfl (cc h42 (cc h43 (cc (@rfl Nat (toNat s2*1)) (cc (oo h43 trivial) (cc h44 (cc (@rfl Nat (toNat x1*1)) (cc (oo h44 trivial) (cc (W_cmp_Less_uint64 h45) c0)))))))) ?_
   exact J8_0 _ (inj F2).symm
  ·replace F2:=ifn h42 F2
   refine rC [(0,.row 0),(1,vi x1),(10,vi r1),(11,vi s2),(60,vb false)] [(0,.row 23 (.int .u64) (List.set (List.set x0 (toNat x1) (getD x0 (toNat x3) 0)) (toNat x3) (getD x0 (toNat x1) 0)))] [] [(3,false)] 5000 rfl (cc h42 c0) ?_
   exact J8_0 _ (inj F2).symm
 refine run_loop rfl (run_loopO hl1 (fun s1=>[(0,.row 0),(1,vi x1),(10,vi s1),(11,vi (wrap .i64 (x2-1)))]) (fun s1=>[(0,.row 23 (.int .u64) (List.set (List.set x0 (toNat x1) (getD x0 (toNat x3) 0)) (toNat x3) (getD x0 (toNat x1) 0)))]) rfl rfl (fun s1 o1 F1 ih1 hr1=>?_))
 unfold F_slices_partitionOrdered_uint64_b1 at F1
 refine run_again ?_
 obtain ⟨r9,F2,F1⟩:=obd F1
 refine sq rfl (sq rfl ?_)
 refine run_cut (fun r9'=>r9=r9') (fun r9=>[(0,.row 0),(1,vi x1),(10,vi s1),(11,vi (wrap .i64 (x2-1))),(43,vb r9)]) (fun r9=>[(0,.row 23 (.int .u64) (List.set (List.set x0 (toNat x1) (getD x0 (toNat x3) 0)) (toNat x3) (getD x0 (toNat x1) 0)))]) (fun r9' h46=>?_) (fun J9_0=>?_)
 ·subst h46
  refine run_if rfl rfl (fun h47=>?_) (fun h47=>?_)
  ·replace F1:=ift h47 F1
   refine sk rfl (bk rfl (rB [(0,.row 0),(1,vi x1),(10,vi (wrap .i64 (s1+1))),(11,vi (wrap .i64 (x2-1)))] [(0,.row 23 (.int .u64) (List.set (List.set x0 (toNat x1) (getD x0 (toNat x3) 0)) (toNat x3) (getD x0 (toNat x1) 0)))] 5000 rfl c0 (eb ?_)))
   exact ih1 _ (inj F1).symm
  ·replace F1:=ifn h47 F1
   refine run_exit rfl rfl (tm (ρ':=[(0,.row 0),(1,vi x1),(10,vi s1),(11,vi (wrap .i64 (x2-1)))]) (H':=[(0,.row 23 (.int .u64) (List.set (List.set x0 (toNat x1) (getD x0 (toNat x3) 0)) (toNat x3) (getD x0 (toNat x1) 0)))]) (by kernel_rfl) (by kernel_rfl) rfl ?_)
   exact J1_0 _ (inrI hr1 F1).symm
 rcases Bool.eq_false_or_eq_true (decide (s1≤(wrap .i64 (x2-1)))) with h48|h48
 ·replace F2:=ift h48 F2
  obtain ⟨h49,F2⟩:=ifg F2
  obtain ⟨h50,F2⟩:=ifg F2
  obtain ⟨t4,h51,F2⟩:=obd F2
  refine rC [(0,.row 0),(1,vi x1),(10,vi s1),(11,vi (wrap .i64 (x2-1))),(43,vb t4)] [(0,.row 23 (.int .u64) (List.set (List.set x0 (toNat x1) (getD x0 (toNat x3) 0)) (toNat x3) (getD x0 (toNat x1) 0)))] [(12,⟨[.v (.int .u64),.v (.int .u64)],vb t4,none⟩)] [(3,true)] 5000 rfl (cc h48 (cc h49 (cc (@rfl Nat (toNat s1*1)) (cc (oo h49 trivial) (cc h50 (cc (@rfl Nat (toNat x1*1)) (cc (oo h50 trivial) (cc (W_cmp_Less_uint64 h51) c0)))))))) ?_
  exact J9_0 _ (inj F2).symm
 ·replace F2:=ifn h48 F2
  refine rC [(0,.row 0),(1,vi x1),(10,vi s1),(11,vi (wrap .i64 (x2-1))),(43,vb false)] [(0,.row 23 (.int .u64) (List.set (List.set x0 (toNat x1) (getD x0 (toNat x3) 0)) (toNat x3) (getD x0 (toNat x1) 0)))] [] [(3,false)] 5000 rfl (cc h48 c0) ?_
  exact J9_0 _ (inj F2).symm
noncomputable def F_slices_order2Ordered_uint64 (x0:(List Int)) (x1:Int) (x2:Int) (x3:Int):Option (Int×Int×Int) :=
 if 0≤x2∧x2<((length x0:Nat):Int) then (if 0≤x1∧x1<((length x0:Nat):Int) then (F_cmp_Less_uint64 (getD x0 (toNat x2) 0) (getD x0 (toNat x1) 0)).bind fun t1=>(if (t1)=true then some (x2,x1,wrap .i64 (x3+1)) else some (x1,x2,x3)) else none) else none
theorem W_slices_order2Ordered_uint64 {x0:(List Int)} {x1:Int} {x2:Int} {x3:Int} {y:(Int×Int×Int)} (F0:F_slices_order2Ordered_uint64 x0 x1 x2 x3=some y):Mut Tryz.prog 270 1 [.v (.sl (.int .u64)) x0,vi x1,vi x2,.ptr 0 [] 0] [(0,.var 3 (.int .i64) x3)] (.tup [vi y.1,vi y.2.1]) [(0,.var 3 (.int .i64) y.2.2)]:=by
 unfold F_slices_order2Ordered_uint64 at F0
 refine mut_of_run @Tryz.call270 @Tryz.func270 rfl rfl fun b=>?_
 obtain ⟨h1,F0⟩:=ifg F0
 obtain ⟨h2,F0⟩:=ifg F0
 obtain ⟨t1,h3,F0⟩:=obd F0
 refine sq rfl ?_
 refine sE (oE [0,1,2,3] [0] 5000 rfl (qE rfl (qE rfl (gE [1,2,3,18] [0] [(8,⟨[.v (.int .u64),.v (.int .u64)],vb t1,none⟩)] [] 5000 rfl rfl (fA [(1,vi x1),(2,vi x2),(3,.ptr 0 [] 0),(18,vb t1)] [(0,.var 3 (.int .i64) x3)] (cc h1 (cc h2 (cc (W_cmp_Less_uint64 h3) c0))) ?_)))))
 refine run_if rfl rfl (fun h4=>?_) (fun h4=>?_)
 ·replace F0:=ift h4 F0
  refine sq rfl ?_
  refine sE (oE [1,2] [0] 5000 rfl (qE rfl (oE [8,9] [0] 5000 rfl (fA [(8,vi x2),(9,vi x1)] [(0,.var 3 (.int .i64) (wrap .i64 (x3+1)))] c0 ?_))))
  obtain rfl:=inj F0
  exact ret_mut (q:=[vi x2,vi x1]) [some (.int .i64),some (.int .i64)] [0] rfl rfl (by kernel_rfl) rfl (by kernel_rfl)
 ·replace F0:=ifn h4 F0
  refine sk rfl (sq rfl (rB [(8,vi x1),(9,vi x2)] [(0,.var 3 (.int .i64) x3)] 5000 rfl c0 ?_))
  obtain rfl:=inj F0
  exact ret_mut (q:=[vi x1,vi x2]) [some (.int .i64),some (.int .i64)] [0] rfl rfl (by kernel_rfl) rfl (by kernel_rfl)
noncomputable def F_slices_medianOrdered_uint64 (x0:(List Int)) (x1:Int) (x2:Int) (x3:Int) (x4:Int):Option (Int×Int) :=
 (F_slices_order2Ordered_uint64 x0 x1 x2 x4).bind fun t1=>((F_slices_order2Ordered_uint64 x0 t1.2.1 x3 t1.2.2).bind fun t2=>((F_slices_order2Ordered_uint64 x0 t1.1 t2.1 t2.2.2).bind fun t3=>(some (t3.2.1,t3.2.2))))
theorem W_slices_medianOrdered_uint64 {x0:(List Int)} {x1:Int} {x2:Int} {x3:Int} {x4:Int} {y:(Int×Int)} (F0:F_slices_medianOrdered_uint64 x0 x1 x2 x3 x4=some y):Mut Tryz.prog 257 1 [.v (.sl (.int .u64)) x0,vi x1,vi x2,vi x3,.ptr 0 [] 0] [(0,.var 3 (.int .i64) x4)] (vi y.1) [(0,.var 3 (.int .i64) y.2)]:=by
 unfold F_slices_medianOrdered_uint64 at F0
 refine mut_of_run @Tryz.call257 @Tryz.func257 rfl rfl fun b=>?_
 obtain ⟨t1,h1,F0⟩:=obd F0
 obtain ⟨t2,h2,F0⟩:=obd F0
 obtain ⟨t3,h3,F0⟩:=obd F0
 refine sq rfl ?_
 refine sE (oE [0,1,2,3,4] [0] 5000 rfl (qE rfl (rE [0,1,2,3,4] [0] [(4,⟨[.v (.sl (.int .u64)),.v (.int .i64),.v (.int .i64),.v .unit],.tup [vi t1.1,vi t1.2.1],some ([0],[(0,.var 3 (.int .i64) t1.2.2)])⟩)] [] 5000 rfl (qE rfl (rE [0,1,2,4] [0] [(4,⟨[.v (.sl (.int .u64)),.v (.int .i64),.v (.int .i64),.v .unit],.tup [vi t2.1,vi t2.2.1],some ([0],[(0,.var 3 (.int .i64) t2.2.2)])⟩)] [] 5000 rfl (qE rfl (rE [2] [0] [(4,⟨[.v (.sl (.int .u64)),.v (.int .i64),.v (.int .i64),.v .unit],.tup [vi t3.1,vi t3.2.1],some ([0],[(0,.var 3 (.int .i64) t3.2.2)])⟩)] [] 5000 rfl (qE rfl (oE [10] [0] 5000 rfl (fA [(10,vi t3.2.1)] [(0,.var 3 (.int .i64) t3.2.2)] (cc (W_slices_order2Ordered_uint64 h1) (cc (W_slices_order2Ordered_uint64 h2) (cc (W_slices_order2Ordered_uint64 h3) c0))) ?_))))))))))
 obtain rfl:=inj F0
 exact ret_mut (q:=[vi t3.2.1]) [some (.int .i64)] [0] rfl rfl (by kernel_rfl) rfl (by kernel_rfl)
noncomputable def F_slices_medianAdjacentOrdered_uint64 (x0:(List Int)) (x1:Int) (x2:Int):Option (Int×Int) :=
 (F_slices_medianOrdered_uint64 x0 (wrap .i64 (x1-1)) x1 (wrap .i64 (x1+1)) x2).bind fun t1=>(some (t1.1,t1.2))
theorem W_slices_medianAdjacentOrdered_uint64 {x0:(List Int)} {x1:Int} {x2:Int} {y:(Int×Int)} (F0:F_slices_medianAdjacentOrdered_uint64 x0 x1 x2=some y):Mut Tryz.prog 256 1 [.v (.sl (.int .u64)) x0,vi x1,.ptr 0 [] 0] [(0,.var 3 (.int .i64) x2)] (vi y.1) [(0,.var 3 (.int .i64) y.2)]:=by
 unfold F_slices_medianAdjacentOrdered_uint64 at F0
 refine mut_of_run @Tryz.call256 @Tryz.func256 rfl rfl fun b=>?_
 obtain ⟨t1,h1,F0⟩:=obd F0
 refine sq rfl ?_
 refine sE (oE [0,1,2] [0] 5000 rfl (qE rfl (rE [6] [0] [(7,⟨[.v (.sl (.int .u64)),.v (.int .i64),.v (.int .i64),.v (.int .i64),.v .unit],vi t1.1,some ([0],[(0,.var 3 (.int .i64) t1.2)])⟩)] [] 5000 rfl (fA [(6,vi t1.1)] [(0,.var 3 (.int .i64) t1.2)] (cc (W_slices_medianOrdered_uint64 h1) c0) ?_))))
 obtain rfl:=inj F0
 exact ret_mut (q:=[vi t1.1]) [some (.int .i64)] [0] rfl rfl (by kernel_rfl) rfl (by kernel_rfl)
noncomputable def F_slices_choosePivotOrdered_uint64 (x0:(List Int)) (x1:Int) (x2:Int):Option (Int×Int) :=
 (show Option (Int×Int) from if (decide ((wrap .i64 (x2-x1))≥8))=true then if (decide ((wrap .i64 (x2-x1))≥50))=true then (F_slices_medianAdjacentOrdered_uint64 x0 (wrap .i64 (x1+(wrap .i64 ((wrap .i64 (Int.tdiv (wrap .i64 (x2-x1)) 4))*1)))) 0).bind fun t1=>((F_slices_medianAdjacentOrdered_uint64 x0 (wrap .i64 (x1+(wrap .i64 ((wrap .i64 (Int.tdiv (wrap .i64 (x2-x1)) 4))*2)))) t1.2).bind fun t2=>((F_slices_medianAdjacentOrdered_uint64 x0 (wrap .i64 (x1+(wrap .i64 ((wrap .i64 (Int.tdiv (wrap .i64 (x2-x1)) 4))*3)))) t2.2).bind fun t3=>((F_slices_medianOrdered_uint64 x0 t1.1 t2.1 t3.1 t3.2).bind fun t4=>(some (t4.1,t4.2))))) else (F_slices_medianOrdered_uint64 x0 (wrap .i64 (x1+(wrap .i64 ((wrap .i64 (Int.tdiv (wrap .i64 (x2-x1)) 4))*1)))) (wrap .i64 (x1+(wrap .i64 ((wrap .i64 (Int.tdiv (wrap .i64 (x2-x1)) 4))*2)))) (wrap .i64 (x1+(wrap .i64 ((wrap .i64 (Int.tdiv (wrap .i64 (x2-x1)) 4))*3)))) 0).bind fun t5=>(some (t5.1,t5.2)) else some (wrap .i64 (x1+(wrap .i64 ((wrap .i64 (Int.tdiv (wrap .i64 (x2-x1)) 4))*2))),0)).bind (fun r1=>if (r1.2==0)=true then some (r1.1,1) else if (r1.2==12)=true then some (r1.1,2) else some (r1.1,0))
theorem W_slices_choosePivotOrdered_uint64 {x0:(List Int)} {x1:Int} {x2:Int} {y:(Int×Int)} (F0:F_slices_choosePivotOrdered_uint64 x0 x1 x2=some y):Pure Tryz.prog 236 [.v (.sl (.int .u64)) x0,vi x1,vi x2] (.tup [vi y.1,vi y.2]):=by
 unfold F_slices_choosePivotOrdered_uint64 at F0
 refine pure_of_run @Tryz.call236 @Tryz.func236 rfl rfl fun w M ho=>?_
 obtain ⟨r1,F1,F0⟩:=obd F0
 refine sq rfl ?_
 refine sE (oE [0,1,2] [] 5000 rfl (qE rfl (oE [0,1,8] [] 5000 rfl (qE rfl (oE [0,1,8,9] [5000] 5000 rfl (qE rfl (oE [0,1,8,9,10] [5000] 5001 rfl (qE rfl (oE [0,1,8,9,10,11] [5000] 5001 rfl (qE rfl (oE [0,8,9,10,11,12] [5000] 5001 rfl (qE rfl (qE rfl (oE [0,8,9,10,11,12,32] [5000] 5001 rfl (fA [(0,.v (.sl (.int .u64)) x0),(8,vi (wrap .i64 (x2-x1))),(9,.ptr 5000 [] 0),(10,vi (wrap .i64 (x1+(wrap .i64 ((wrap .i64 (Int.tdiv (wrap .i64 (x2-x1)) 4))*1))))),(11,vi (wrap .i64 (x1+(wrap .i64 ((wrap .i64 (Int.tdiv (wrap .i64 (x2-x1)) 4))*2))))),(12,vi (wrap .i64 (x1+(wrap .i64 ((wrap .i64 (Int.tdiv (wrap .i64 (x2-x1)) 4))*3))))),(32,vb (decide ((wrap .i64 (x2-x1))≥8)))] [(5000,.var 3 (.int .i64) 0)] (cc (show 4≠(0:Int) from (by decide)) (cc (show 4≠(0:Int) from (by decide)) (cc (show 4≠(0:Int) from (by decide)) c0))) ?_)))))))))))))))
 refine run_cut (fun r1'=>r1=r1') (fun r1=>[(9,.ptr 5000 [] 0),(11,vi r1.1)]) (fun r1=>[(5000,.var 3 (.int .i64) r1.2)]) (fun r1' h1=>?_) (fun J1_0=>?_)
 ·subst h1
  refine sq rfl ?_
  refine sE (oE [11,49] [] 5001 rfl (bE rfl (qE rfl (oE [11,49,51] [] 5000 rfl (fA [(11,vi r1.1),(49,vi r1.2),(51,vb (r1.2==0))] [] c0 ?_)))))
  refine run_if rfl rfl (fun h2=>?_) (fun h2=>?_)
  ·replace F0:=ift h2 F0
   refine sq rfl (rB [(6,vi r1.1),(7,vi 1)] [] 5000 rfl c0 ?_)
   obtain rfl:=inj F0
   exact ret_pure (q:=[vi r1.1,vi 1]) [(.int .i64),(.int .i64)] rfl rfl (by kernel_rfl)
  ·replace F0:=ifn h2 F0
   refine sq rfl (rB [(11,vi r1.1),(54,vb (r1.2==12))] [] 5000 rfl c0 ?_)
   refine run_if rfl rfl (fun h3=>?_) (fun h3=>?_)
   ·replace F0:=ift h3 F0
    refine sq rfl (rB [(6,vi r1.1),(7,vi 2)] [] 5000 rfl c0 ?_)
    obtain rfl:=inj F0
    exact ret_pure (q:=[vi r1.1,vi 2]) [(.int .i64),(.int .i64)] rfl rfl (by kernel_rfl)
   ·replace F0:=ifn h3 F0
    refine sq rfl (rB [(6,vi r1.1),(7,vi 0)] [] 5000 rfl c0 ?_)
    obtain rfl:=inj F0
    exact ret_pure (q:=[vi r1.1,vi 0]) [(.int .i64),(.int .i64)] rfl rfl (by kernel_rfl)
 refine run_if rfl rfl (fun h4=>?_) (fun h4=>?_)
 ·replace F1:=ift h4 F1
  refine sq rfl (sq rfl (rB [(0,.v (.sl (.int .u64)) x0),(9,.ptr 5000 [] 0),(10,vi (wrap .i64 (x1+(wrap .i64 ((wrap .i64 (Int.tdiv (wrap .i64 (x2-x1)) 4))*1))))),(11,vi (wrap .i64 (x1+(wrap .i64 ((wrap .i64 (Int.tdiv (wrap .i64 (x2-x1)) 4))*2))))),(12,vi (wrap .i64 (x1+(wrap .i64 ((wrap .i64 (Int.tdiv (wrap .i64 (x2-x1)) 4))*3))))),(34,vb (decide ((wrap .i64 (x2-x1))≥50)))] [(5000,.var 3 (.int .i64) 0)] 5001 rfl c0 ?_))
  refine run_if rfl rfl (fun h5=>?_) (fun h5=>?_)
  ·replace F1:=ift h5 F1
   obtain ⟨t1,h6,F1⟩:=obd F1
   obtain ⟨t2,h7,F1⟩:=obd F1
   obtain ⟨t3,h8,F1⟩:=obd F1
   obtain ⟨t4,h9,F1⟩:=obd F1
   refine sq rfl ?_
   refine sE (rE [0,9,10,11,12] [5000] [(2,⟨[.v (.sl (.int .u64)),.v (.int .i64),.v .unit],vi t1.1,some ([5000],[(0,.var 3 (.int .i64) t1.2)])⟩)] [] 5001 rfl (qE rfl (rE [0,9,10,11,12] [5000] [(2,⟨[.v (.sl (.int .u64)),.v (.int .i64),.v .unit],vi t2.1,some ([5000],[(0,.var 3 (.int .i64) t2.2)])⟩)] [] 5001 rfl (rE [0,9,10,11,12] [5000] [(2,⟨[.v (.sl (.int .u64)),.v (.int .i64),.v .unit],vi t3.1,some ([5000],[(0,.var 3 (.int .i64) t3.2)])⟩)] [] 5001 rfl (rE [9,11] [5000] [(4,⟨[.v (.sl (.int .u64)),.v (.int .i64),.v (.int .i64),.v (.int .i64),.v .unit],vi t4.1,some ([5000],[(0,.var 3 (.int .i64) t4.2)])⟩)] [] 5001 rfl (fA [(9,.ptr 5000 [] 0),(11,vi t4.1)] [(5000,.var 3 (.int .i64) t4.2)] (cc (W_slices_medianAdjacentOrdered_uint64 h6) (cc (W_slices_medianAdjacentOrdered_uint64 h7) (cc (W_slices_medianAdjacentOrdered_uint64 h8) (cc (W_slices_medianOrdered_uint64 h9) c0)))) ?_))))))
   exact J1_0 _ (inj F1).symm
  ·replace F1:=ifn h5 F1
   obtain ⟨t5,h10,F1⟩:=obd F1
   refine sk rfl (rA [(9,.ptr 5000 [] 0),(11,vi t5.1)] [(5000,.var 3 (.int .i64) t5.2)] [(4,⟨[.v (.sl (.int .u64)),.v (.int .i64),.v (.int .i64),.v (.int .i64),.v .unit],vi t5.1,some ([5000],[(0,.var 3 (.int .i64) t5.2)])⟩)] [] 5001 rfl (cc (W_slices_medianOrdered_uint64 h10) c0) ?_)
   exact J1_0 _ (inj F1).symm
 ·replace F1:=ifn h4 F1
  refine sk rfl (tm (ρ':=[(9,.ptr 5000 [] 0),(11,vi (wrap .i64 (x1+(wrap .i64 ((wrap .i64 (Int.tdiv (wrap .i64 (x2-x1)) 4))*2)))))]) (H':=[(5000,.var 3 (.int .i64) 0)]) (by kernel_rfl) (by kernel_rfl) rfl ?_)
  exact J1_0 _ (inj F1).symm
noncomputable def F_slices_xorshift_Next (x0:Int):Option (Int×Int) :=
 some (bits .xor .u64 (bits .xor .u64 (bits .xor .u64 x0 (wrap .u64 (x0*2^min (toNat 13) 64))) (Int.fdiv (bits .xor .u64 x0 (wrap .u64 (x0*2^min (toNat 13) 64))) (2^min (toNat 7) 64))) (wrap .u64 ((bits .xor .u64 (bits .xor .u64 x0 (wrap .u64 (x0*2^min (toNat 13) 64))) (Int.fdiv (bits .xor .u64 x0 (wrap .u64 (x0*2^min (toNat 13) 64))) (2^min (toNat 7) 64)))*2^min (toNat 17) 64)),bits .xor .u64 (bits .xor .u64 (bits .xor .u64 x0 (wrap .u64 (x0*2^min (toNat 13) 64))) (Int.fdiv (bits .xor .u64 x0 (wrap .u64 (x0*2^min (toNat 13) 64))) (2^min (toNat 7) 64))) (wrap .u64 ((bits .xor .u64 (bits .xor .u64 x0 (wrap .u64 (x0*2^min (toNat 13) 64))) (Int.fdiv (bits .xor .u64 x0 (wrap .u64 (x0*2^min (toNat 13) 64))) (2^min (toNat 7) 64)))*2^min (toNat 17) 64)))
theorem W_slices_xorshift_Next {x0:Int} {y:(Int×Int)} (F0:F_slices_xorshift_Next x0=some y):Mut Tryz.prog 255 1 [.ptr 0 [] 0] [(0,.var 287 (.int .u64) x0)] (vu y.1) [(0,.var 287 (.int .u64) y.2)]:=by
 unfold F_slices_xorshift_Next at F0
 refine mut_of_run @Tryz.call255 @Tryz.func255 rfl rfl fun b=>?_
 refine sq rfl ?_
 refine sE (oE [0] [0] 5000 rfl (qE rfl (gE [0] [0] [] [] 5000 rfl rfl (qE rfl (gE [0] [0] [] [] 5000 rfl rfl (qE rfl (gE [0] [0] [] [] 5000 rfl rfl (qE rfl (oE [2] [0] 5000 rfl (fA [(2,vu (bits .xor .u64 (bits .xor .u64 (bits .xor .u64 x0 (wrap .u64 (x0*2^min (toNat 13) 64))) (Int.fdiv (bits .xor .u64 x0 (wrap .u64 (x0*2^min (toNat 13) 64))) (2^min (toNat 7) 64))) (wrap .u64 ((bits .xor .u64 (bits .xor .u64 x0 (wrap .u64 (x0*2^min (toNat 13) 64))) (Int.fdiv (bits .xor .u64 x0 (wrap .u64 (x0*2^min (toNat 13) 64))) (2^min (toNat 7) 64)))*2^min (toNat 17) 64))))] [(0,.var 287 (.int .u64) (bits .xor .u64 (bits .xor .u64 (bits .xor .u64 x0 (wrap .u64 (x0*2^min (toNat 13) 64))) (Int.fdiv (bits .xor .u64 x0 (wrap .u64 (x0*2^min (toNat 13) 64))) (2^min (toNat 7) 64))) (wrap .u64 ((bits .xor .u64 (bits .xor .u64 x0 (wrap .u64 (x0*2^min (toNat 13) 64))) (Int.fdiv (bits .xor .u64 x0 (wrap .u64 (x0*2^min (toNat 13) 64))) (2^min (toNat 7) 64)))*2^min (toNat 17) 64))))] (cc (show (0:Int)≤13 from (by decide)) (cc (show (0:Int)≤7 from (by decide)) (cc (show (0:Int)≤17 from (by decide)) c0))) ?_))))))))))
 obtain rfl:=inj F0
 exact ret_mut (q:=[vu (bits .xor .u64 (bits .xor .u64 (bits .xor .u64 x0 (wrap .u64 (x0*2^min (toNat 13) 64))) (Int.fdiv (bits .xor .u64 x0 (wrap .u64 (x0*2^min (toNat 13) 64))) (2^min (toNat 7) 64))) (wrap .u64 ((bits .xor .u64 (bits .xor .u64 x0 (wrap .u64 (x0*2^min (toNat 13) 64))) (Int.fdiv (bits .xor .u64 x0 (wrap .u64 (x0*2^min (toNat 13) 64))) (2^min (toNat 7) 64)))*2^min (toNat 17) 64)))]) [some (.int .u64)] [0] rfl rfl (by kernel_rfl) rfl (by kernel_rfl)
def KS0:Str:=[0,1,2,2,3,3,3,3,4,4,4,4,4,4,4,4,5,5,5,5,5,5,5,5,5,5,5,5,5,5,5,5,6,6,6,6,6,6,6,6,6,6,6,6,6,6,6,6,6,6,6,6,6,6,6,6,6,6,6,6,6,6,6,6,7,7,7,7,7,7,7,7,7,7,7,7,7,7,7,7,7,7,7,7,7,7,7,7,7,7,7,7,7,7,7,7,7,7,7,7,7,7,7,7,7,7,7,7,7,7,7,7,7,7,7,7,7,7,7,7,7,7,7,7,7,7,7,7,8,8,8,8,8,8,8,8,8,8,8,8,8,8,8,8,8,8,8,8,8,8,8,8,8,8,8,8,8,8,8,8,8,8,8,8,8,8,8,8,8,8,8,8,8,8,8,8,8,8,8,8,8,8,8,8,8,8,8,8,8,8,8,8,8,8,8,8,8,8,8,8,8,8,8,8,8,8,8,8,8,8,8,8,8,8,8,8,8,8,8,8,8,8,8,8,8,8,8,8,8,8,8,8,8,8,8,8,8,8,8,8,8,8,8,8,8,8,8,8,8,8,8,8,8,8,8,8]
noncomputable def F_math_bits_Len64 (x0:Int):Option Int :=
 (show Option (Int×Int) from if (decide (x0≥4294967296))=true then some (Int.fdiv x0 (2^min (toNat 32) 64),32) else some (x0,0)).bind (fun r1=>(show Option (Int×Int) from if (decide (r1.1≥65536))=true then some (Int.fdiv r1.1 (2^min (toNat 16) 64),wrap .i64 (r1.2+16)) else some (r1.1,r1.2)).bind (fun r2=>(show Option (Int×Int) from if (decide (r2.1≥256))=true then some (Int.fdiv r2.1 (2^min (toNat 8) 64),wrap .i64 (r2.2+8)) else some (r2.1,r2.2)).bind (fun r3=>if 0≤(wrap .u8 r3.1)∧(wrap .u8 r3.1)<((length KS0:Nat):Int) then (some (wrap .i64 (r3.2+(wrap .i64 (((getD KS0 (toNat (wrap .u8 r3.1)) 0).toNat:Nat):Int))))) else none)))
theorem W_math_bits_Len64 {x0:Int} {y:Int} (F0:F_math_bits_Len64 x0=some y):Pure Tryz.prog 243 [vu x0] (vi y):=by
 unfold F_math_bits_Len64 at F0
 refine pure_of_run @Tryz.call243 @Tryz.func243 rfl rfl fun w M ho=>?_
 obtain ⟨r1,F1,F0⟩:=obd F0
 refine sq rfl ?_
 refine sE (oE [0,2] [] 5000 rfl (qE rfl (qE rfl (oE [0,2,4] [] 5000 rfl (fA [(0,vu x0),(2,vi 0),(4,vb (decide (x0≥4294967296)))] [] c0 ?_)))))
 refine run_cut (fun r1'=>r1=r1') (fun r1=>[(0,vu r1.1),(2,vi r1.2)]) (fun r1=>[]) (fun r1' h1=>?_) (fun J1_0=>?_)
 ·subst h1
  obtain ⟨r2,F1,F0⟩:=obd F0
  refine sq rfl (sq rfl (rB [(0,vu r1.1),(2,vi r1.2),(8,vb (decide (r1.1≥65536)))] [] 5000 rfl c0 ?_))
  refine run_cut (fun r2'=>r2=r2') (fun r2=>[(0,vu r2.1),(2,vi r2.2)]) (fun r2=>[]) (fun r2' h2=>?_) (fun J2_0=>?_)
  ·subst h2
   obtain ⟨r3,F1,F0⟩:=obd F0
   refine sq rfl (sq rfl (rB [(0,vu r2.1),(2,vi r2.2),(14,vb (decide (r2.1≥256)))] [] 5000 rfl c0 ?_))
   refine run_cut (fun r3'=>r3=r3') (fun r3=>[(0,vu r3.1),(2,vi r3.2)]) (fun r3=>[]) (fun r3' h3=>?_) (fun J3_0=>?_)
   ·subst h3
    obtain ⟨h4,F0⟩:=ifg F0
    refine sq rfl (rB [(2,vi (wrap .i64 (r3.2+(wrap .i64 (((getD KS0 (toNat (wrap .u8 r3.1)) 0).toNat:Nat):Int)))))] [] 5000 rfl (cc h4 c0) ?_)
    obtain rfl:=inj F0
    exact ret_pure (q:=[vi (wrap .i64 (r3.2+(wrap .i64 (((getD KS0 (toNat (wrap .u8 r3.1)) 0).toNat:Nat):Int))))]) [(.int .i64)] rfl rfl (by kernel_rfl)
   refine run_if rfl rfl (fun h5=>?_) (fun h5=>?_)
   ·replace F1:=ift h5 F1
    refine sq rfl ?_
    refine sE (oE [0,2] [] 5000 rfl (oE [0,2] [] 5000 rfl (fA [(0,vu (Int.fdiv r2.1 (2^min (toNat 8) 64))),(2,vi (wrap .i64 (r2.2+8)))] [] (cc (show (0:Int)≤8 from (by decide)) c0) ?_)))
    exact J3_0 _ (inj F1).symm
   ·replace F1:=ifn h5 F1
    refine sk rfl (tm (ρ':=[(0,vu r2.1),(2,vi r2.2)]) (H':=[]) (by kernel_rfl) (by kernel_rfl) rfl ?_)
    exact J3_0 _ (inj F1).symm
  refine run_if rfl rfl (fun h6=>?_) (fun h6=>?_)
  ·replace F1:=ift h6 F1
   refine sq rfl ?_
   refine sE (oE [0,2] [] 5000 rfl (oE [0,2] [] 5000 rfl (fA [(0,vu (Int.fdiv r1.1 (2^min (toNat 16) 64))),(2,vi (wrap .i64 (r1.2+16)))] [] (cc (show (0:Int)≤16 from (by decide)) c0) ?_)))
   exact J2_0 _ (inj F1).symm
  ·replace F1:=ifn h6 F1
   refine sk rfl (tm (ρ':=[(0,vu r1.1),(2,vi r1.2)]) (H':=[]) (by kernel_rfl) (by kernel_rfl) rfl ?_)
   exact J2_0 _ (inj F1).symm
 refine run_if rfl rfl (fun h7=>?_) (fun h7=>?_)
 ·replace F1:=ift h7 F1
  refine sq rfl ?_
  refine sE (oE [0] [] 5000 rfl (oE [0,2] [] 5000 rfl (fA [(0,vu (Int.fdiv x0 (2^min (toNat 32) 64))),(2,vi 32)] [] (cc (show (0:Int)≤32 from (by decide)) c0) ?_)))
  exact J1_0 _ (inj F1).symm
 ·replace F1:=ifn h7 F1
  refine sk rfl (tm (ρ':=[(0,vu x0),(2,vi 0)]) (H':=[]) (by kernel_rfl) (by kernel_rfl) rfl ?_)
  exact J1_0 _ (inj F1).symm
noncomputable def F_math_bits_Len (x0:Int):Option Int :=
 (F_math_bits_Len64 x0).bind fun t1=>(some t1)
theorem W_math_bits_Len {x0:Int} {y:Int} (F0:F_math_bits_Len x0=some y):Pure Tryz.prog 217 [vu x0] (vi y):=by
 unfold F_math_bits_Len at F0
 refine pure_of_run @Tryz.call217 @Tryz.func217 rfl rfl fun w M ho=>?_
 refine sq rfl (rB [(0,vu x0)] [] 5000 rfl c0 (sq rfl (run_cond (t:=false) rfl (by kernel_rfl) ?_)))
 obtain ⟨t1,h1,F0⟩:=obd F0
 refine sk rfl (sq rfl (rA [(2,vi t1)] [] [(1,⟨[.v (.int .u64)],vi t1,none⟩)] [] 5000 rfl (cc (W_math_bits_Len64 h1) c0) ?_))
 obtain rfl:=inj F0
 exact ret_pure (q:=[vi t1]) [(.int .i64)] rfl rfl (by kernel_rfl)
noncomputable def F_slices_nextPowerOfTwo (x0:Int):Option Int :=
 (F_math_bits_Len (wrap .u64 x0)).bind fun t1=>(if (0:Int)≤t1 then (some (wrap .u64 (1*2^min (toNat t1) 64))) else none)
theorem W_slices_nextPowerOfTwo {x0:Int} {y:Int} (F0:F_slices_nextPowerOfTwo x0=some y):Pure Tryz.prog 254 [vi x0] (vu y):=by
 unfold F_slices_nextPowerOfTwo at F0
 refine pure_of_run @Tryz.call254 @Tryz.func254 rfl rfl fun w M ho=>?_
 obtain ⟨t1,h1,F0⟩:=obd F0
 obtain ⟨h2,F0⟩:=ifg F0
 refine sq rfl ?_
 refine sE (oE [0] [] 5000 rfl (qE rfl (rE [2] [] [(2,⟨[.v (.int .u64)],vi t1,none⟩)] [] 5000 rfl (fA [(2,vu (wrap .u64 (1*2^min (toNat t1) 64)))] [] (cc (W_math_bits_Len h1) (cc h2 c0)) ?_))))
 obtain rfl:=inj F0
 exact ret_pure (q:=[vu (wrap .u64 (1*2^min (toNat t1) 64))]) [(.int .u64)] rfl rfl (by kernel_rfl)
noncomputable def F_slices_breakPatternsOrdered_uint64_b1 (t1:Int) (x1:Int) (x2:Int) (s1:(Int×(List Int)×Int)):Option ((Int×(List Int)×Int)⊕(List Int)) :=
 if (decide (s1.1≤(wrap .i64 ((wrap .i64 (x1+(wrap .i64 ((wrap .i64 (Int.tdiv (wrap .i64 (x2-x1)) 4))*2))))+1))))=true then (F_slices_xorshift_Next s1.2.2).bind fun t2=>((show Option Int from if (decide ((wrap .i64 (bits .and .u64 t2.1 (wrap .u64 (t1-1))))≥(wrap .i64 (x2-x1))))=true then some (wrap .i64 ((wrap .i64 (bits .and .u64 t2.1 (wrap .u64 (t1-1))))-(wrap .i64 (x2-x1)))) else some (wrap .i64 (bits .and .u64 t2.1 (wrap .u64 (t1-1))))).bind (fun r2=>if 0≤(wrap .i64 (x1+r2))∧(wrap .i64 (x1+r2))<((length s1.2.1:Nat):Int) then (if 0≤s1.1∧s1.1<((length s1.2.1:Nat):Int) then (if 0≤s1.1∧s1.1<((length s1.2.1:Nat):Int) then (if 0≤(wrap .i64 (x1+r2))∧(wrap .i64 (x1+r2))<((length (List.set s1.2.1 (toNat s1.1) (getD s1.2.1 (toNat (wrap .i64 (x1+r2))) 0)):Nat):Int) then (some (Sum.inl (wrap .i64 (s1.1+1),List.set (List.set s1.2.1 (toNat s1.1) (getD s1.2.1 (toNat (wrap .i64 (x1+r2))) 0)) (toNat (wrap .i64 (x1+r2))) (getD s1.2.1 (toNat s1.1) 0),t2.2))) else none) else none) else none) else none)) else some (Sum.inr s1.2.1)
noncomputable def F_slices_breakPatternsOrdered_uint64 (x0:(List Int)) (x1:Int) (x2:Int):Option (List Int) :=
 if (decide ((wrap .i64 (x2-x1))≥8))=true then (F_slices_nextPowerOfTwo (wrap .i64 (x2-x1))).bind fun t1=>((loopO (F_slices_breakPatternsOrdered_uint64_b1 t1 x1 x2) (wrap .i64 ((wrap .i64 (x1+(wrap .i64 ((wrap .i64 (Int.tdiv (wrap .i64 (x2-x1)) 4))*2))))-1),x0,wrap .u64 (wrap .i64 (x2-x1)))).bind (fun r1=>some r1)) else some x0
theorem W_slices_breakPatternsOrdered_uint64 {x0:(List Int)} {x1:Int} {x2:Int} {y:(List Int)} (F0:F_slices_breakPatternsOrdered_uint64 x0 x1 x2=some y):Mut Tryz.prog 235 1 [.row 0,vi x1,vi x2] [(0,.row 23 (.int .u64) x0)] (.tup []) [(0,.row 23 (.int .u64) y)]:=by
 unfold F_slices_breakPatternsOrdered_uint64 at F0
 refine mut_of_run @Tryz.call235 @Tryz.func235 rfl rfl fun b=>?_
 refine sq rfl ?_
 refine sE (oE [0,1,6] [0] 5000 rfl (qE rfl (oE [0,1,6,15] [0] 5000 rfl (fA [(0,.row 0),(1,vi x1),(6,vi (wrap .i64 (x2-x1))),(15,vb (decide ((wrap .i64 (x2-x1))≥8)))] [(0,.row 23 (.int .u64) x0)] c0 ?_))))
 refine run_if rfl rfl (fun h1=>?_) (fun h1=>?_)
 ·replace F0:=ift h1 F0
  obtain ⟨t1,h2,F0⟩:=obd F0
  obtain ⟨r1,hl1,F0⟩:=obd F0
  refine sq rfl ?_
  refine sE (oE [0,1,6,7] [0,5040] 5000 rfl (qE rfl (rE [0,1,6,7,8] [0,5040] [(1,⟨[.v (.int .i64)],vu t1,none⟩)] [] 5041 rfl (qE rfl (oE [0,1,6,7,8,9] [0,5040] 5041 rfl (fA [(0,.row 0),(1,vi x1),(6,vi (wrap .i64 (x2-x1))),(7,.ptr 5040 [] 0),(8,vu t1),(9,vi (wrap .i64 ((wrap .i64 (x1+(wrap .i64 ((wrap .i64 (Int.tdiv (wrap .i64 (x2-x1)) 4))*2))))-1)))] [(0,.row 23 (.int .u64) x0),(5040,.var 287 (.int .u64) (wrap .u64 (wrap .i64 (x2-x1))))] (cc (W_slices_nextPowerOfTwo h2) (cc (show 4≠(0:Int) from (by decide)) c0)) (bk rfl ?_)))))))
  refine run_cutx 0 rfl (fun r1'=>r1=r1') (fun r1=>[]) (fun r1=>[(0,.row 23 (.int .u64) r1)]) (fun r1' h3=>?_) (fun J1_0=>?_)
  ·subst h3
   obtain rfl:=inj F0
   exact fall_mut (q:=[]) [] [0] rfl (by kernel_rfl) rfl (by kernel_rfl)
  refine run_loop rfl (run_loopO hl1 (fun s1=>[(0,.row 0),(1,vi x1),(6,vi (wrap .i64 (x2-x1))),(7,.ptr 5040 [] 0),(8,vu t1),(9,vi s1.1)]) (fun s1=>[(0,.row 23 (.int .u64) s1.2.1),(5040,.var 287 (.int .u64) s1.2.2)]) rfl rfl (fun s1 o1 F1 ih1 hr1=>?_))
  unfold F_slices_breakPatternsOrdered_uint64_b1 at F1
  refine run_again (sq rfl (sq rfl (rB [(0,.row 0),(1,vi x1),(6,vi (wrap .i64 (x2-x1))),(7,.ptr 5040 [] 0),(8,vu t1),(9,vi s1.1),(33,vb (decide (s1.1≤(wrap .i64 ((wrap .i64 (x1+(wrap .i64 ((wrap .i64 (Int.tdiv (wrap .i64 (x2-x1)) 4))*2))))+1)))))] [(0,.row 23 (.int .u64) s1.2.1),(5040,.var 287 (.int .u64) s1.2.2)] 5041 rfl (cc (show 4≠(0:Int) from (by decide)) c0) ?_)))
  refine run_if rfl rfl (fun h4=>?_) (fun h4=>?_)
  ·replace F1:=ift h4 F1
   obtain ⟨t2,h5,F1⟩:=obd F1
   obtain ⟨r2,F2,F1⟩:=obd F1
   refine sk rfl (sq rfl (bk rfl (sq rfl ?_)))
   refine sE (rE [0,1,6,7,8,9,10] [0,5040] [(0,⟨[.v .unit],vu t2.1,some ([5040],[(0,.var 287 (.int .u64) t2.2)])⟩)] [] 5041 rfl (qE rfl (qE rfl (oE [0,1,6,7,8,9,10,43] [0,5040] 5041 rfl (fA [(0,.row 0),(1,vi x1),(6,vi (wrap .i64 (x2-x1))),(7,.ptr 5040 [] 0),(8,vu t1),(9,vi s1.1),(10,vi (wrap .i64 (bits .and .u64 t2.1 (wrap .u64 (t1-1))))),(43,vb (decide ((wrap .i64 (bits .and .u64 t2.1 (wrap .u64 (t1-1))))≥(wrap .i64 (x2-x1)))))] [(0,.row 23 (.int .u64) s1.2.1),(5040,.var 287 (.int .u64) t2.2)] (cc (W_slices_xorshift_Next h5) c0) ?_)))))
   refine run_cut (fun r2'=>r2=r2') (fun r2=>[(0,.row 0),(1,vi x1),(6,vi (wrap .i64 (x2-x1))),(7,.ptr 5040 [] 0),(8,vu t1),(9,vi s1.1),(10,vi r2)]) (fun r2=>[(0,.row 23 (.int .u64) s1.2.1),(5040,.var 287 (.int .u64) t2.2)]) (fun r2' h6=>?_) (fun J2_0=>?_)
   ·subst h6
    obtain ⟨h7,F1⟩:=ifg F1
    obtain ⟨h8,F1⟩:=ifg F1
    obtain ⟨h9,F1⟩:=ifg F1
    obtain ⟨h10,F1⟩:=ifg F1
    refine sE (gE [0,1,6,7,8,9] [0,5040] [] [] 5041 rfl rfl (eE (oE [0,1,6,7,8,9] [0,5040] 5041 rfl (fA [(0,.row 0),(1,vi x1),(6,vi (wrap .i64 (x2-x1))),(7,.ptr 5040 [] 0),(8,vu t1),(9,vi (wrap .i64 (s1.1+1)))] [(0,.row 23 (.int .u64) (List.set (List.set s1.2.1 (toNat s1.1) (getD s1.2.1 (toNat (wrap .i64 (x1+r2))) 0)) (toNat (wrap .i64 (x1+r2))) (getD s1.2.1 (toNat s1.1) 0))),(5040,.var 287 (.int .u64) t2.2)] (cc h7 (cc (@rfl Nat (toNat (wrap .i64 (x1+r2))*1)) (cc (oo h7 trivial) (cc h8 (cc (@rfl Nat (toNat s1.1*1)) (cc (oo h8 trivial) (cc h9 (cc (@rfl Nat (toNat s1.1*1)) (cc (oo h9 trivial) (cc h10 (cc (@rfl Nat (toNat (wrap .i64 (x1+r2))*1)) (cc (oo h10 trivial) c0)))))))))))) ?_))))
    exact ih1 _ (inj F1).symm
   refine run_if rfl rfl (fun h11=>?_) (fun h11=>?_)
   ·replace F2:=ift h11 F2
    refine rB [(0,.row 0),(1,vi x1),(6,vi (wrap .i64 (x2-x1))),(7,.ptr 5040 [] 0),(8,vu t1),(9,vi s1.1),(10,vi (wrap .i64 ((wrap .i64 (bits .and .u64 t2.1 (wrap .u64 (t1-1))))-(wrap .i64 (x2-x1)))))] [(0,.row 23 (.int .u64) s1.2.1),(5040,.var 287 (.int .u64) t2.2)] 5041 rfl c0 ?_
    exact J2_0 _ (inj F2).symm
   ·replace F2:=ifn h11 F2
    refine sk rfl (tm (ρ':=[(0,.row 0),(1,vi x1),(6,vi (wrap .i64 (x2-x1))),(7,.ptr 5040 [] 0),(8,vu t1),(9,vi s1.1),(10,vi (wrap .i64 (bits .and .u64 t2.1 (wrap .u64 (t1-1)))))]) (H':=[(0,.row 23 (.int .u64) s1.2.1),(5040,.var 287 (.int .u64) t2.2)]) (by kernel_rfl) (by kernel_rfl) rfl ?_)
    exact J2_0 _ (inj F2).symm
  ·replace F1:=ifn h4 F1
   refine run_exit rfl rfl (tm (ρ':=[]) (H':=[(0,.row 23 (.int .u64) s1.2.1)]) (by kernel_rfl) (by kernel_rfl) rfl ?_)
   exact J1_0 _ (inrI hr1 F1).symm
 ·replace F0:=ifn h1 F0
  refine sk rfl (tm (ρ':=[]) (H':=[(0,.row 23 (.int .u64) x0)]) (by kernel_rfl) (by kernel_rfl) rfl ?_)
  obtain rfl:=inj F0
  exact fall_mut (q:=[]) [] [0] rfl (by kernel_rfl) rfl (by kernel_rfl)
noncomputable def F_slices_pdqsortOrdered_uint64_s_b1 (q0:((List Int)→Int→Int→Int→Option (List Int))) (s1:(Int×Int×Int×Bool×Bool×(List Int))):Option ((Int×Int×Int×Bool×Bool×(List Int))⊕(List Int)) :=
 if (decide ((wrap .i64 (s1.2.1-s1.1))≤12))=true then (F_slices_insertionSortOrdered_uint64 s1.2.2.2.2.2 s1.1 s1.2.1).bind fun t1=>(some (Sum.inr t1)) else if (s1.2.2.1==0)=true then (F_slices_heapSortOrdered_uint64 s1.2.2.2.2.2 s1.1 s1.2.1).bind fun t2=>(some (Sum.inr t2)) else (show Option (Int×(List Int)) from if (!s1.2.2.2.1)=true then (F_slices_breakPatternsOrdered_uint64 s1.2.2.2.2.2 s1.1 s1.2.1).bind fun t11=>(some (wrap .i64 (s1.2.2.1-1),t11)) else some (s1.2.2.1,s1.2.2.2.2.2)).bind (fun r2=>(F_slices_choosePivotOrdered_uint64 r2.2 s1.1 s1.2.1).bind fun t3=>((show Option (Int×Int×(List Int)) from if (t3.2==2)=true then (F_slices_reverseRangeOrdered_uint64 r2.2 s1.1 s1.2.1).bind fun t10=>(some (wrap .i64 ((wrap .i64 (s1.2.1-1))-(wrap .i64 (t3.1-s1.1))),1,t10)) else some (t3.1,t3.2,r2.2)).bind (fun r3=>(show Option Bool from if s1.2.2.2.1=true then if s1.2.2.2.2.1=true then some (r3.2.1==1) else some false else some false).bind (fun r4=>(show Option ((List Int)⊕(List Int)) from if (r4)=true then (F_slices_partialInsertionSortOrdered_uint64 r3.2.2 s1.1 s1.2.1).bind fun t9=>(if t9.1=true then some (Sum.inl t9.2) else some (Sum.inr t9.2)) else some (Sum.inr r3.2.2)).bind (Sum.elim (fun y5=>some (Sum.inr y5)) (fun j51=>(show Option Bool from if (decide (s1.1>0))=true then if 0≤(wrap .i64 (s1.1-1))∧(wrap .i64 (s1.1-1))<((length j51:Nat):Int) then (if 0≤r3.1∧r3.1<((length j51:Nat):Int) then (F_cmp_Less_uint64 (getD j51 (toNat (wrap .i64 (s1.1-1))) 0) (getD j51 (toNat r3.1) 0)).bind fun t8=>(some (!t8)) else none) else none else some false).bind (fun r6=>if (r6)=true then (F_slices_partitionEqualOrdered_uint64 j51 s1.1 s1.2.1 r3.1).bind fun t4=>(some (Sum.inl (t4.1,s1.2.1,r2.1,s1.2.2.2.1,s1.2.2.2.2.1,t4.2))) else (F_slices_partitionOrdered_uint64 j51 s1.1 s1.2.1 r3.1).bind fun t5=>(if (decide ((wrap .i64 (t5.1-s1.1))<(wrap .i64 (s1.2.1-t5.1))))=true then (q0 t5.2.2 s1.1 t5.1 r2.1).bind fun t6=>(some (Sum.inl (wrap .i64 (t5.1+1),s1.2.1,r2.1,decide ((wrap .i64 (t5.1-s1.1))≥(wrap .i64 (Int.tdiv (wrap .i64 (s1.2.1-s1.1)) 8))),t5.2.1,t6))) else (q0 t5.2.2 (wrap .i64 (t5.1+1)) s1.2.1 r2.1).bind fun t7=>(some (Sum.inl (s1.1,t5.1,r2.1,decide ((wrap .i64 (s1.2.1-t5.1))≥(wrap .i64 (Int.tdiv (wrap .i64 (s1.2.1-s1.1)) 8))),t5.2.1,t7)))))))))))
noncomputable def F_slices_pdqsortOrdered_uint64_s (q0:(List Int)→Int→Int→Int→Option (List Int)) (x0:(List Int)) (x1:Int) (x2:Int) (x3:Int):Option (List Int) :=
 (loopO (F_slices_pdqsortOrdered_uint64_s_b1 q0) (x1,x2,x3,true,true,x0)).bind some
theorem W_slices_pdqsortOrdered_uint64_s {q0:(List Int)→Int→Int→Int→Option (List Int)} (hq0:∀{x0:(List Int)} {x1:Int} {x2:Int} {x3:Int} {y:(List Int)},q0 x0 x1 x2 x3=some y→Mut Tryz.prog 216 1 [.row 0,vi x1,vi x2,vi x3] [(0,.row 23 (.int .u64) x0)] (.tup []) [(0,.row 23 (.int .u64) y)]) {x0:(List Int)} {x1:Int} {x2:Int} {x3:Int} {y:(List Int)} (F0:F_slices_pdqsortOrdered_uint64_s q0 x0 x1 x2 x3=some y):Mut Tryz.prog 216 1 [.row 0,vi x1,vi x2,vi x3] [(0,.row 23 (.int .u64) x0)] (.tup []) [(0,.row 23 (.int .u64) y)]:=by
 unfold F_slices_pdqsortOrdered_uint64_s at F0
 refine mut_of_run @Tryz.call216 @Tryz.func216 rfl rfl fun b=>?_
 obtain ⟨r1,hl1,F0⟩:=obd F0
 refine sq rfl ?_
 refine sE (oE [0,1,2,3,8] [0] 5000 rfl (qE rfl (oE [0,1,2,3,8,9] [0] 5000 rfl (fA [(0,.row 0),(1,vi x1),(2,vi x2),(3,vi x3),(8,vb true),(9,vb true)] [(0,.row 23 (.int .u64) x0)] c0 (bk rfl ?_)))))
 refine run_loop rfl (run_loopO hl1 (fun s1=>[(0,.row 0),(1,vi s1.1),(2,vi s1.2.1),(3,vi s1.2.2.1),(8,vb s1.2.2.2.1),(9,vb s1.2.2.2.2.1)]) (fun s1=>[(0,.row 23 (.int .u64) s1.2.2.2.2.2)]) rfl rfl (fun s1 o1 F1 ih1 hr1=>?_))
 unfold F_slices_pdqsortOrdered_uint64_s_b1 at F1
 refine run_again (bk rfl (sq rfl ?_))
 refine sE (oE [0,1,2,3,8,9,10] [0] 5000 rfl (qE rfl (qE rfl (oE [0,1,2,3,8,9,10,23] [0] 5000 rfl (fA [(0,.row 0),(1,vi s1.1),(2,vi s1.2.1),(3,vi s1.2.2.1),(8,vb s1.2.2.2.1),(9,vb s1.2.2.2.2.1),(10,vi (wrap .i64 (s1.2.1-s1.1))),(23,vb (decide ((wrap .i64 (s1.2.1-s1.1))≤12)))] [(0,.row 23 (.int .u64) s1.2.2.2.2.2)] c0 ?_)))))
 refine run_if rfl rfl (fun h1=>?_) (fun h1=>?_)
 ·replace F1:=ift h1 F1
  obtain ⟨t1,h2,F1⟩:=obd F1
  refine sq rfl (rA [] [(0,.row 23 (.int .u64) t1)] [(3,⟨[.v .unit,.v (.int .i64),.v (.int .i64)],.tup [],some ([0],[(0,.row 23 (.int .u64) t1)])⟩)] [] 5000 rfl (cc (W_slices_insertionSortOrdered_uint64 h2) c0) ?_)
  have e1:=inrI hr1 F1
  subst e1
  obtain rfl:=inj F0
  exact ret_mut (q:=[]) [] [0] rfl rfl (by kernel_rfl) rfl (by kernel_rfl)
 ·replace F1:=ifn h1 F1
  refine sk rfl (sq rfl (sq rfl (rB [(0,.row 0),(1,vi s1.1),(2,vi s1.2.1),(3,vi s1.2.2.1),(8,vb s1.2.2.2.1),(9,vb s1.2.2.2.2.1),(10,vi (wrap .i64 (s1.2.1-s1.1))),(29,vb (s1.2.2.1==0))] [(0,.row 23 (.int .u64) s1.2.2.2.2.2)] 5000 rfl c0 ?_)))
  refine run_if rfl rfl (fun h3=>?_) (fun h3=>?_)
  ·replace F1:=ift h3 F1
   obtain ⟨t2,h4,F1⟩:=obd F1
   refine sq rfl (rA [] [(0,.row 23 (.int .u64) t2)] [(3,⟨[.v .unit,.v (.int .i64),.v (.int .i64)],.tup [],some ([0],[(0,.row 23 (.int .u64) t2)])⟩)] [] 5000 rfl (cc (W_slices_heapSortOrdered_uint64 h4) c0) ?_)
   have e1:=inrI hr1 F1
   subst e1
   obtain rfl:=inj F0
   exact ret_mut (q:=[]) [] [0] rfl rfl (by kernel_rfl) rfl (by kernel_rfl)
  ·replace F1:=ifn h3 F1
   obtain ⟨r2,F2,F1⟩:=obd F1
   refine sk rfl (sq rfl (sq rfl (rB [(0,.row 0),(1,vi s1.1),(2,vi s1.2.1),(3,vi s1.2.2.1),(8,vb s1.2.2.2.1),(9,vb s1.2.2.2.2.1),(10,vi (wrap .i64 (s1.2.1-s1.1))),(35,vb (!s1.2.2.2.1))] [(0,.row 23 (.int .u64) s1.2.2.2.2.2)] 5000 rfl c0 ?_)))
   refine run_cut (fun r2'=>r2=r2') (fun r2=>[(0,.row 0),(1,vi s1.1),(2,vi s1.2.1),(3,vi r2.1),(8,vb s1.2.2.2.1),(9,vb s1.2.2.2.2.1),(10,vi (wrap .i64 (s1.2.1-s1.1)))]) (fun r2=>[(0,.row 23 (.int .u64) r2.2)]) (fun r2' h5=>?_) (fun J2_0=>?_)
   ·subst h5
    obtain ⟨t3,h6,F1⟩:=obd F1
    obtain ⟨r3,F2,F1⟩:=obd F1
    refine sq rfl ?_
    refine sE (rE [0,1,2,3,8,9,10,11,12] [0] [(3,⟨[.v (.sl (.int .u64)),.v (.int .i64),.v (.int .i64)],.tup [vi t3.1,vi t3.2],none⟩)] [] 5000 rfl (qE rfl (qE rfl (oE [0,1,2,3,8,9,10,11,12,50] [0] 5000 rfl (fA [(0,.row 0),(1,vi s1.1),(2,vi s1.2.1),(3,vi r2.1),(8,vb s1.2.2.2.1),(9,vb s1.2.2.2.2.1),(10,vi (wrap .i64 (s1.2.1-s1.1))),(11,vi t3.1),(12,vi t3.2),(50,vb (t3.2==2))] [(0,.row 23 (.int .u64) r2.2)] (cc (W_slices_choosePivotOrdered_uint64 h6) c0) ?_)))))
    refine run_cut (fun r3'=>r3=r3') (fun r3=>[(0,.row 0),(1,vi s1.1),(2,vi s1.2.1),(3,vi r2.1),(8,vb s1.2.2.2.1),(9,vb s1.2.2.2.2.1),(10,vi (wrap .i64 (s1.2.1-s1.1))),(11,vi r3.1),(12,vi r3.2.1)]) (fun r3=>[(0,.row 23 (.int .u64) r3.2.2)]) (fun r3' h7=>?_) (fun J3_0=>?_)
    ·subst h7
     obtain ⟨r4,F2,F1⟩:=obd F1
     refine sq rfl (sq rfl ?_)
     refine run_cut (fun r4'=>r4=r4') (fun r4=>[(0,.row 0),(1,vi s1.1),(2,vi s1.2.1),(3,vi r2.1),(8,vb s1.2.2.2.1),(9,vb s1.2.2.2.2.1),(10,vi (wrap .i64 (s1.2.1-s1.1))),(11,vi r3.1),(68,vb r4)]) (fun r4=>[(0,.row 23 (.int .u64) r3.2.2)]) (fun r4' h8=>?_) (fun J4_0=>?_)
     ·subst h8
      obtain ⟨r5,F2,F1⟩:=obd F1
      refine run_cut (fun j51=>r5=Sum.inr j51) (fun j51=>[(0,.row 0),(1,vi s1.1),(2,vi s1.2.1),(3,vi r2.1),(8,vb s1.2.2.2.1),(9,vb s1.2.2.2.2.1),(10,vi (wrap .i64 (s1.2.1-s1.1))),(11,vi r3.1)]) (fun j51=>[(0,.row 23 (.int .u64) j51)]) (fun j51 h9=>?_) (fun J5_1=>?_)
      ·subst h9
       replace F1:=sumR F1
       obtain ⟨r6,F2,F1⟩:=obd F1
       refine sq rfl (sq rfl ?_)
       refine run_cut (fun r6'=>r6=r6') (fun r6=>[(0,.row 0),(1,vi s1.1),(2,vi s1.2.1),(3,vi r2.1),(8,vb s1.2.2.2.1),(9,vb s1.2.2.2.2.1),(10,vi (wrap .i64 (s1.2.1-s1.1))),(11,vi r3.1),(87,vb r6)]) (fun r6=>[(0,.row 23 (.int .u64) j51)]) (fun r6' h10=>?_) (fun J6_0=>?_)
       ·subst h10
        refine run_if rfl rfl (fun h11=>?_) (fun h11=>?_)
        ·replace F1:=ift h11 F1
         obtain ⟨t4,h12,F1⟩:=obd F1
         refine sq rfl ?_
         refine sE (rE [0,2,3,8,9,13] [0] [(4,⟨[.v .unit,.v (.int .i64),.v (.int .i64),.v (.int .i64)],vi t4.1,some ([0],[(0,.row 23 (.int .u64) t4.2)])⟩)] [] 5000 rfl (qE rfl (oE [0,1,2,3,8,9] [0] 5000 rfl (fA [(0,.row 0),(1,vi t4.1),(2,vi s1.2.1),(3,vi r2.1),(8,vb s1.2.2.2.1),(9,vb s1.2.2.2.2.1)] [(0,.row 23 (.int .u64) t4.2)] (cc (W_slices_partitionEqualOrdered_uint64 h12) c0) (run_exit rfl rfl ?_)))))
         exact ih1 _ (inj F1).symm
        ·replace F1:=ifn h11 F1
         obtain ⟨t5,h13,F1⟩:=obd F1
         refine sk rfl (sq rfl ?_)
         refine sE (rE [0,1,2,3,10,14,15] [0] [(4,⟨[.v .unit,.v (.int .i64),.v (.int .i64),.v (.int .i64)],.tup [vi t5.1,vb t5.2.1],some ([0],[(0,.row 23 (.int .u64) t5.2.2)])⟩)] [] 5000 rfl (qE rfl (oE [0,1,2,3,9,10,14] [0] 5000 rfl (qE rfl (oE [0,1,2,3,9,10,14,16,17] [0] 5000 rfl (qE rfl (oE [0,1,2,3,9,14,16,17,18] [0] 5000 rfl (qE rfl (oE [0,1,2,3,9,14,16,17,18,113] [0] 5000 rfl (fA [(0,.row 0),(1,vi s1.1),(2,vi s1.2.1),(3,vi r2.1),(9,vb t5.2.1),(14,vi t5.1),(16,vi (wrap .i64 (t5.1-s1.1))),(17,vi (wrap .i64 (s1.2.1-t5.1))),(18,vi (wrap .i64 (Int.tdiv (wrap .i64 (s1.2.1-s1.1)) 8))),(113,vb (decide ((wrap .i64 (t5.1-s1.1))<(wrap .i64 (s1.2.1-t5.1)))))] [(0,.row 23 (.int .u64) t5.2.2)] (cc (W_slices_partitionOrdered_uint64 h13) (cc (show 8≠(0:Int) from (by decide)) c0)) ?_))))))))))
         refine run_if rfl rfl (fun h14=>?_) (fun h14=>?_)
         ·replace F1:=ift h14 F1
          obtain ⟨t6,h15,F1⟩:=obd F1
          refine sq rfl ?_
          refine sE (oE [0,1,2,3,8,9,14] [0] 5000 rfl (qE rfl (rE [0,2,3,8,9,14] [0] [(4,⟨[.v .unit,.v (.int .i64),.v (.int .i64),.v (.int .i64)],.tup [],some ([0],[(0,.row 23 (.int .u64) t6)])⟩)] [] 5000 rfl (oE [0,1,2,3,8,9] [0] 5000 rfl (fA [(0,.row 0),(1,vi (wrap .i64 (t5.1+1))),(2,vi s1.2.1),(3,vi r2.1),(8,vb (decide ((wrap .i64 (t5.1-s1.1))≥(wrap .i64 (Int.tdiv (wrap .i64 (s1.2.1-s1.1)) 8))))),(9,vb t5.2.1)] [(0,.row 23 (.int .u64) t6)] (cc (hq0 h15) c0) (eb ?_))))))
          exact ih1 _ (inj F1).symm
         ·replace F1:=ifn h14 F1
          obtain ⟨t7,h16,F1⟩:=obd F1
          refine sq rfl ?_
          refine sE (oE [0,1,2,3,8,9,14] [0] 5000 rfl (qE rfl (rE [0,1,3,8,9,14] [0] [(5,⟨[.v .unit,.v (.int .i64),.v (.int .i64),.v (.int .i64)],.tup [],some ([0],[(0,.row 23 (.int .u64) t7)])⟩)] [] 5000 rfl (oE [0,1,2,3,8,9] [0] 5000 rfl (fA [(0,.row 0),(1,vi s1.1),(2,vi t5.1),(3,vi r2.1),(8,vb (decide ((wrap .i64 (s1.2.1-t5.1))≥(wrap .i64 (Int.tdiv (wrap .i64 (s1.2.1-s1.1)) 8))))),(9,vb t5.2.1)] [(0,.row 23 (.int .u64) t7)] (cc (hq0 h16) c0) (eb ?_))))))
          exact ih1 _ (inj F1).symm
       rcases Bool.eq_false_or_eq_true (decide (s1.1>0)) with h17|h17
       ·replace F2:=ift h17 F2
        obtain ⟨h18,F2⟩:=ifg F2
        obtain ⟨h19,F2⟩:=ifg F2
        obtain ⟨t8,h20,F2⟩:=obd F2
        refine rC [(0,.row 0),(1,vi s1.1),(2,vi s1.2.1),(3,vi r2.1),(8,vb s1.2.2.2.1),(9,vb s1.2.2.2.2.1),(10,vi (wrap .i64 (s1.2.1-s1.1))),(11,vi r3.1),(87,vb (!t8))] [(0,.row 23 (.int .u64) j51)] [(12,⟨[.v (.int .u64),.v (.int .u64)],vb t8,none⟩)] [(2,true)] 5000 rfl (cc h17 (cc h18 (cc (@rfl Nat (toNat (wrap .i64 (s1.1-1))*1)) (cc (oo h18 trivial) (cc h19 (cc (@rfl Nat (toNat r3.1*1)) (cc (oo h19 trivial) (cc (W_cmp_Less_uint64 h20) c0)))))))) ?_
        exact J6_0 _ (inj F2).symm
       ·replace F2:=ifn h17 F2
        refine rC [(0,.row 0),(1,vi s1.1),(2,vi s1.2.1),(3,vi r2.1),(8,vb s1.2.2.2.1),(9,vb s1.2.2.2.2.1),(10,vi (wrap .i64 (s1.2.1-s1.1))),(11,vi r3.1),(87,vb false)] [(0,.row 23 (.int .u64) j51)] [] [(2,false)] 5000 rfl (cc h17 c0) ?_
        exact J6_0 _ (inj F2).symm
      refine run_if rfl rfl (fun h21=>?_) (fun h21=>?_)
      ·replace F2:=ift h21 F2
       obtain ⟨t9,h22,F2⟩:=obd F2
       refine sq rfl (rA [(0,.row 0),(1,vi s1.1),(2,vi s1.2.1),(3,vi r2.1),(8,vb s1.2.2.2.1),(9,vb s1.2.2.2.2.1),(10,vi (wrap .i64 (s1.2.1-s1.1))),(11,vi r3.1),(72,vb t9.1)] [(0,.row 23 (.int .u64) t9.2)] [(3,⟨[.v .unit,.v (.int .i64),.v (.int .i64)],vb t9.1,some ([0],[(0,.row 23 (.int .u64) t9.2)])⟩)] [] 5000 rfl (cc (W_slices_partialInsertionSortOrdered_uint64 h22) c0) ?_)
       refine run_if rfl rfl (fun h23=>?_) (fun h23=>?_)
       ·replace F2:=ift h23 F2
        refine tm (ρ':=[]) (H':=[(0,.row 23 (.int .u64) t9.2)]) (by kernel_rfl) (by kernel_rfl) rfl ?_
        have e5:=inj F2
        subst e5
        replace F1:=sumL F1
        have e1:=inrI hr1 F1
        subst e1
        obtain rfl:=inj F0
        exact ret_mut (q:=[]) [] [0] rfl rfl (by kernel_rfl) rfl (by kernel_rfl)
       ·replace F2:=ifn h23 F2
        refine sk rfl (tm (ρ':=[(0,.row 0),(1,vi s1.1),(2,vi s1.2.1),(3,vi r2.1),(8,vb s1.2.2.2.1),(9,vb s1.2.2.2.2.1),(10,vi (wrap .i64 (s1.2.1-s1.1))),(11,vi r3.1)]) (H':=[(0,.row 23 (.int .u64) t9.2)]) (by kernel_rfl) (by kernel_rfl) rfl ?_)
        exact J5_1 _ (inj F2).symm
      ·replace F2:=ifn h21 F2
       refine sk rfl (tm (ρ':=[(0,.row 0),(1,vi s1.1),(2,vi s1.2.1),(3,vi r2.1),(8,vb s1.2.2.2.1),(9,vb s1.2.2.2.2.1),(10,vi (wrap .i64 (s1.2.1-s1.1))),(11,vi r3.1)]) (H':=[(0,.row 23 (.int .u64) r3.2.2)]) (by kernel_rfl) (by kernel_rfl) rfl ?_)
       exact J5_1 _ (inj F2).symm
     rcases Bool.eq_false_or_eq_true s1.2.2.2.1 with h24|h24
     ·replace F2:=ift h24 F2
      rcases Bool.eq_false_or_eq_true s1.2.2.2.2.1 with h25|h25
      ·replace F2:=ift h25 F2
       refine rA [(0,.row 0),(1,vi s1.1),(2,vi s1.2.1),(3,vi r2.1),(8,vb s1.2.2.2.1),(9,vb s1.2.2.2.2.1),(10,vi (wrap .i64 (s1.2.1-s1.1))),(11,vi r3.1),(68,vb (r3.2.1==1))] [(0,.row 23 (.int .u64) r3.2.2)] [] [(1,true),(4,true)] 5000 rfl (cc h24 (cc h25 c0)) ?_
       exact J4_0 _ (inj F2).symm
      ·replace F2:=ifn h25 F2
       refine rA [(0,.row 0),(1,vi s1.1),(2,vi s1.2.1),(3,vi r2.1),(8,vb s1.2.2.2.1),(9,vb s1.2.2.2.2.1),(10,vi (wrap .i64 (s1.2.1-s1.1))),(11,vi r3.1),(68,vb false)] [(0,.row 23 (.int .u64) r3.2.2)] [] [(1,true),(4,false)] 5000 rfl (cc h24 (cc h25 c0)) ?_
       exact J4_0 _ (inj F2).symm
     ·replace F2:=ifn h24 F2
      refine rA [(0,.row 0),(1,vi s1.1),(2,vi s1.2.1),(3,vi r2.1),(8,vb s1.2.2.2.1),(9,vb s1.2.2.2.2.1),(10,vi (wrap .i64 (s1.2.1-s1.1))),(11,vi r3.1),(68,vb false)] [(0,.row 23 (.int .u64) r3.2.2)] [] [(1,false)] 5000 rfl (cc h24 c0) ?_
      exact J4_0 _ (inj F2).symm
    refine run_if rfl rfl (fun h26=>?_) (fun h26=>?_)
    ·replace F2:=ift h26 F2
     obtain ⟨t10,h27,F2⟩:=obd F2
     refine sq rfl ?_
     refine sE (rE [0,1,2,3,8,9,10,11] [0] [(3,⟨[.v .unit,.v (.int .i64),.v (.int .i64)],.tup [],some ([0],[(0,.row 23 (.int .u64) t10)])⟩)] [] 5000 rfl (qE rfl (oE [0,1,2,3,8,9,10,11] [0] 5000 rfl (oE [0,1,2,3,8,9,10,11,12] [0] 5000 rfl (fA [(0,.row 0),(1,vi s1.1),(2,vi s1.2.1),(3,vi r2.1),(8,vb s1.2.2.2.1),(9,vb s1.2.2.2.2.1),(10,vi (wrap .i64 (s1.2.1-s1.1))),(11,vi (wrap .i64 ((wrap .i64 (s1.2.1-1))-(wrap .i64 (t3.1-s1.1))))),(12,vi 1)] [(0,.row 23 (.int .u64) t10)] (cc (W_slices_reverseRangeOrdered_uint64 h27) c0) ?_)))))
     exact J3_0 _ (inj F2).symm
    ·replace F2:=ifn h26 F2
     refine sk rfl (tm (ρ':=[(0,.row 0),(1,vi s1.1),(2,vi s1.2.1),(3,vi r2.1),(8,vb s1.2.2.2.1),(9,vb s1.2.2.2.2.1),(10,vi (wrap .i64 (s1.2.1-s1.1))),(11,vi t3.1),(12,vi t3.2)]) (H':=[(0,.row 23 (.int .u64) r2.2)]) (by kernel_rfl) (by kernel_rfl) rfl ?_)
     exact J3_0 _ (inj F2).symm
   refine run_if rfl rfl (fun h28=>?_) (fun h28=>?_)
   ·replace F2:=ift h28 F2
    obtain ⟨t11,h29,F2⟩:=obd F2
    refine sq rfl ?_
    refine sE (rE [0,1,2,3,8,9,10] [0] [(3,⟨[.v .unit,.v (.int .i64),.v (.int .i64)],.tup [],some ([0],[(0,.row 23 (.int .u64) t11)])⟩)] [] 5000 rfl (oE [0,1,2,3,8,9,10] [0] 5000 rfl (fA [(0,.row 0),(1,vi s1.1),(2,vi s1.2.1),(3,vi (wrap .i64 (s1.2.2.1-1))),(8,vb s1.2.2.2.1),(9,vb s1.2.2.2.2.1),(10,vi (wrap .i64 (s1.2.1-s1.1)))] [(0,.row 23 (.int .u64) t11)] (cc (W_slices_breakPatternsOrdered_uint64 h29) c0) ?_)))
    exact J2_0 _ (inj F2).symm
   ·replace F2:=ifn h28 F2
    refine sk rfl (tm (ρ':=[(0,.row 0),(1,vi s1.1),(2,vi s1.2.1),(3,vi s1.2.2.1),(8,vb s1.2.2.2.1),(9,vb s1.2.2.2.2.1),(10,vi (wrap .i64 (s1.2.1-s1.1)))]) (H':=[(0,.row 23 (.int .u64) s1.2.2.2.2.2)]) (by kernel_rfl) (by kernel_rfl) rfl ?_)
    exact J2_0 _ (inj F2).symm
noncomputable def F_slices_pdqsortOrdered_uint64_n:Nat→(List Int)→Int→Int→Int→Option (List Int)
 | 0=>fun _ _ _ _=>none
 | n+1=>F_slices_pdqsortOrdered_uint64_s (F_slices_pdqsortOrdered_uint64_n n)
noncomputable def F_slices_pdqsortOrdered_uint64 (x0:(List Int)) (x1:Int) (x2:Int) (x3:Int):Option (List Int):=F_slices_pdqsortOrdered_uint64_n (toNat (x2-x1)+1) x0 x1 x2 x3
theorem W_slices_pdqsortOrdered_uint64_n:∀(n:Nat) {x0:(List Int)} {x1:Int} {x2:Int} {x3:Int} {y:(List Int)},F_slices_pdqsortOrdered_uint64_n n x0 x1 x2 x3=some y→Mut Tryz.prog 216 1 [.row 0,vi x1,vi x2,vi x3] [(0,.row 23 (.int .u64) x0)] (.tup []) [(0,.row 23 (.int .u64) y)]
 | 0,_,_,_,_,_,h=>by cases h
 | n+1,_,_,_,_,_,h=>W_slices_pdqsortOrdered_uint64_s (W_slices_pdqsortOrdered_uint64_n n) h
theorem W_slices_pdqsortOrdered_uint64 {x0:(List Int)} {x1:Int} {x2:Int} {x3:Int} {y:(List Int)} (h:F_slices_pdqsortOrdered_uint64 x0 x1 x2 x3=some y):Mut Tryz.prog 216 1 [.row 0,vi x1,vi x2,vi x3] [(0,.row 23 (.int .u64) x0)] (.tup []) [(0,.row 23 (.int .u64) y)]:=W_slices_pdqsortOrdered_uint64_n _ h
noncomputable def F_slices_Sort_uint64_uint64 (x0:(List Int)):Option (List Int) :=
 (F_math_bits_Len (wrap .u64 ((length x0:Nat):Int))).bind fun t1=>((F_slices_pdqsortOrdered_uint64 x0 0 ((length x0:Nat):Int) t1).bind fun t2=>(some t2))
theorem W_slices_Sort_uint64_uint64 {x0:(List Int)} {y:(List Int)} (F0:F_slices_Sort_uint64_uint64 x0=some y):Mut Tryz.prog 190 1 [.row 0] [(0,.row 23 (.int .u64) x0)] (.tup []) [(0,.row 23 (.int .u64) y)]:=by
 unfold F_slices_Sort_uint64_uint64 at F0
 refine mut_of_run @Tryz.call190 @Tryz.func190 rfl rfl fun b=>?_
 obtain ⟨t1,h1,F0⟩:=obd F0
 obtain ⟨t2,h2,F0⟩:=obd F0
 refine sq rfl ?_
 refine sE (oE [0,2] [0] 5000 rfl (rE [] [0] [(4,⟨[.v (.int .u64)],vi t1,none⟩),(5,⟨[.v .unit,.v (.int .i64),.v (.int .i64),.v (.int .i64)],.tup [],some ([0],[(0,.row 23 (.int .u64) t2)])⟩)] [] 5000 rfl (fA [] [(0,.row 23 (.int .u64) t2)] (cc (W_math_bits_Len h1) (cc (W_slices_pdqsortOrdered_uint64 h2) c0)) ?_)))
 obtain rfl:=inj F0
 exact fall_mut (q:=[]) [] [0] rfl (by kernel_rfl) rfl (by kernel_rfl)
noncomputable def F_slices_Compact_uint64_uint64_b2 (s1:Int) (x0:(List Int)) (s2:(Int×Int×(List Int))):Option ((Int×Int×(List Int))⊕(Int×(List Int))) :=
 if (decide (s2.2.1<(((length x0-toNat s1):Nat):Int)))=true then if 0≤s2.2.1∧s2.2.1<(((length x0-toNat s1):Nat):Int) then (if (toNat s1)+toNat s2.2.1<length s2.2.2 then (if 0≤(wrap .i64 (s2.2.1-1))∧(wrap .i64 (s2.2.1-1))<(((length x0-toNat s1):Nat):Int) then (if (toNat s1)+toNat (wrap .i64 (s2.2.1-1))<length s2.2.2 then (if ((getD s2.2.2 ((toNat s1)+toNat s2.2.1) 0) != (getD s2.2.2 ((toNat s1)+toNat (wrap .i64 (s2.2.1-1))) 0))=true then if 0≤s2.2.1∧s2.2.1<(((length x0-toNat s1):Nat):Int) then (if (toNat s1)+toNat s2.2.1<length s2.2.2 then (if 0≤s2.1∧s2.1<((length s2.2.2:Nat):Int) then (some (Sum.inl (wrap .i64 (s2.1+1),wrap .i64 (s2.2.1+1),List.set s2.2.2 (toNat s2.1) (getD s2.2.2 ((toNat s1)+toNat s2.2.1) 0)))) else none) else none) else none else some (Sum.inl (s2.1,wrap .i64 (s2.2.1+1),s2.2.2))) else none) else none) else none) else none else some (Sum.inr (s2.1,s2.2.2))
noncomputable def F_slices_Compact_uint64_uint64_b1 (x0:(List Int)) (s1:Int):Option (Int⊕((List Int)⊕Unit)) :=
 if (decide (s1<((length x0:Nat):Int)))=true then if 0≤s1∧s1<((length x0:Nat):Int) then (if 0≤(wrap .i64 (s1-1))∧(wrap .i64 (s1-1))<((length x0:Nat):Int) then (if ((getD x0 (toNat s1) 0)==(getD x0 (toNat (wrap .i64 (s1-1))) 0))=true then if ((0:Int)≤s1∧toNat s1≤length x0∧length x0≤length x0) then (loopO (F_slices_Compact_uint64_uint64_b2 s1 x0) (s1,1,x0)).bind (fun r2=>if ((0:Int)≤r2.1∧toNat r2.1≤length r2.2∧length r2.2≤length r2.2) then (if (toNat r2.1)+(length r2.2-toNat r2.1)≤length r2.2 then (if ((0:Int)≤r2.1∧0≤toNat r2.1∧toNat r2.1≤length (take (toNat r2.1) r2.2++(replicate (length r2.2-toNat r2.1) 0++drop ((toNat r2.1)+(length r2.2-toNat r2.1)) r2.2))) then (if (toNat r2.1-0)≤length (take (toNat r2.1) r2.2++(replicate (length r2.2-toNat r2.1) 0++drop ((toNat r2.1)+(length r2.2-toNat r2.1)) r2.2)) then some (Sum.inr (Sum.inl (take (toNat r2.1-0) (take (toNat r2.1) r2.2++(replicate (length r2.2-toNat r2.1) 0++drop ((toNat r2.1)+(length r2.2-toNat r2.1)) r2.2))))) else none) else none) else none) else none) else none else some (Sum.inl (wrap .i64 (s1+1)))) else none) else none else some (Sum.inr (Sum.inr ()))
noncomputable def F_slices_Compact_uint64_uint64 (x0:(List Int)):Option (List Int) :=
 if (decide (((length x0:Nat):Int)<2))=true then some x0 else (loopO (F_slices_Compact_uint64_uint64_b1 x0) 1).bind (Sum.elim some (fun j11=>some x0))
theorem W_slices_Compact_uint64_uint64 {x0:(List Int)} {y:(List Int)} (F0:F_slices_Compact_uint64_uint64 x0=some y):Mut Tryz.prog 191 1 [.row 0] [(0,.row 23 (.int .u64) x0)] (.row 1) [(1,.row 23 (.int .u64) y)]:=by
 unfold F_slices_Compact_uint64_uint64 at F0
 refine mut_of_run @Tryz.call191 @Tryz.func191 rfl rfl fun b=>?_
 refine sq rfl ?_
 refine sE (oE [0] [0] 5000 rfl (qE rfl (qE rfl (oE [0,8] [0] 5000 rfl (fA [(0,.row 0),(8,vb (decide (((length x0:Nat):Int)<2)))] [(0,.row 23 (.int .u64) x0)] c0 ?_)))))
 refine run_if rfl rfl (fun h1=>?_) (fun h1=>?_)
 ·replace F0:=ift h1 F0
  refine sq rfl (rB [(2,.row 0)] [(0,.row 23 (.int .u64) x0)] 5000 rfl c0 (run_ren (ρ':=[(2,.row 1)]) (H':=[(1,.row 23 (.int .u64) x0)]) 0 1 rfl (by kernel_rfl) rfl (by kernel_rfl) rfl ?_))
  obtain rfl:=inj F0
  exact ret_mut (q:=[.row 1]) [none] [1] rfl rfl (by kernel_rfl) rfl (by kernel_rfl)
 ·replace F0:=ifn h1 F0
  obtain ⟨r1,hl1,F0⟩:=obd F0
  refine sk rfl (sq rfl (sq rfl (rB [(0,.row 0),(3,vi 1)] [(0,.row 23 (.int .u64) x0)] 5000 rfl c0 (bk rfl ?_))))
  refine run_cutx 0 rfl (fun j11=>r1=Sum.inr j11) (fun j11=>[(0,.row 0)]) (fun j11=>[(0,.row 23 (.int .u64) x0)]) (fun j11 h2=>?_) (fun J1_1=>?_)
  ·subst h2
   replace F0:=sumR F0
   refine sq rfl (rB [(2,.row 0)] [(0,.row 23 (.int .u64) x0)] 5000 rfl c0 (run_ren (ρ':=[(2,.row 1)]) (H':=[(1,.row 23 (.int .u64) x0)]) 0 1 rfl (by kernel_rfl) rfl (by kernel_rfl) rfl ?_))
   obtain rfl:=inj F0
   exact ret_mut (q:=[.row 1]) [none] [1] rfl rfl (by kernel_rfl) rfl (by kernel_rfl)
  refine run_loop rfl (run_loopO hl1 (fun s1=>[(0,.row 0),(3,vi s1)]) (fun s1=>[(0,.row 23 (.int .u64) x0)]) rfl rfl (fun s1 o1 F1 ih1 hr1=>?_))
  unfold F_slices_Compact_uint64_uint64_b1 at F1
  refine run_again (sq rfl (sq rfl (rB [(0,.row 0),(3,vi s1),(13,vb (decide (s1<((length x0:Nat):Int))))] [(0,.row 23 (.int .u64) x0)] 5000 rfl c0 ?_)))
  refine run_if rfl rfl (fun h3=>?_) (fun h3=>?_)
  ·replace F1:=ift h3 F1
   obtain ⟨h4,F1⟩:=ifg F1
   obtain ⟨h5,F1⟩:=ifg F1
   refine sk rfl (sq rfl (bk rfl (sq rfl (rC [(0,.row 0),(3,vi s1),(25,vb ((getD x0 (toNat s1) 0)==(getD x0 (toNat (wrap .i64 (s1-1))) 0)))] [(0,.row 23 (.int .u64) x0)] [] [] 5000 rfl (cc h4 (cc (@rfl Nat (toNat s1*1)) (cc (oo h4 trivial) (cc h5 (cc (@rfl Nat (toNat (wrap .i64 (s1-1))*1)) (cc (oo h5 trivial) c0)))))) ?_))))
   refine run_if rfl rfl (fun h6=>?_) (fun h6=>?_)
   ·replace F1:=ift h6 F1
    obtain ⟨h7,F1⟩:=ifg F1
    obtain ⟨r2,hl2,F1⟩:=obd F1
    refine sq rfl ?_
    refine sE (oE [0,3,4] [0] 5000 rfl (qE rfl (qE rfl (oE [0,3,4,5] [0] 5000 rfl (fA [(0,.row 0),(3,vi s1),(4,.sub 0 1 (toNat s1) (length x0-toNat s1)),(5,vi 1)] [(0,.row 23 (.int .u64) x0)] (cc h7.1 (cc h7.2.1 (cc h7.2.2 c0))) (bk rfl ?_))))))
    refine run_cutx 2 rfl (fun r2'=>r2=r2') (fun r2=>[(0,.row 0),(3,vi r2.1)]) (fun r2=>[(0,.row 23 (.int .u64) r2.2)]) (fun r2' h8=>?_) (fun J2_0=>?_)
    ·subst h8
     obtain ⟨h9,F1⟩:=ifg F1
     obtain ⟨h10,F1⟩:=ifg F1
     obtain ⟨h11,F1⟩:=ifg F1
     obtain ⟨h12,F1⟩:=ifg F1
     refine sq rfl ?_
     refine sE (oE [0,3] [0] 5000 rfl (qE rfl (oE [2] [0] 5000 rfl (fA [(2,.sub 0 1 0 (toNat r2.1-0))] [(0,.row 23 (.int .u64) (take (toNat r2.1) r2.2++(replicate (length r2.2-toNat r2.1) 0++drop ((toNat r2.1)+(length r2.2-toNat r2.1)) r2.2)))] (cc h9.1 (cc h9.2.1 (cc h9.2.2 (cc h10 (cc h11.1 (cc h11.2.1 (cc h11.2.2 c0))))))) (run_subrow (H':=[(1,.row 23 (.int .u64) (take (toNat r2.1-0) (take (toNat r2.1) r2.2++(replicate (length r2.2-toNat r2.1) 0++drop ((toNat r2.1)+(length r2.2-toNat r2.1)) r2.2))))]) 2 0 (toNat r2.1-0) 1 rfl (by kernel_rfl) rfl h12 rfl rfl (tm (ρ':=[(2,.row 1)]) (H':=[(1,.row 23 (.int .u64) (take (toNat r2.1-0) (take (toNat r2.1) r2.2++(replicate (length r2.2-toNat r2.1) 0++drop ((toNat r2.1)+(length r2.2-toNat r2.1)) r2.2))))]) (by kernel_rfl) (by kernel_rfl) rfl ?_))))))
     have e1:=inrI hr1 F1
     subst e1
     replace F0:=sumL F0
     obtain rfl:=inj F0
     exact ret_mut (q:=[.row 1]) [none] [1] rfl rfl (by kernel_rfl) rfl (by kernel_rfl)
    refine run_loop rfl (run_loopO hl2 (fun s2=>[(0,.row 0),(3,vi s2.1),(4,.sub 0 1 (toNat s1) (length x0-toNat s1)),(5,vi s2.2.1)]) (fun s2=>[(0,.row 23 (.int .u64) s2.2.2)]) rfl rfl (fun s2 o2 F2 ih2 hr2=>?_))
    unfold F_slices_Compact_uint64_uint64_b2 at F2
    refine run_again (sq rfl (sq rfl (rB [(0,.row 0),(3,vi s2.1),(4,.sub 0 1 (toNat s1) (length x0-toNat s1)),(5,vi s2.2.1),(32,vb (decide (s2.2.1<(((length x0-toNat s1):Nat):Int))))] [(0,.row 23 (.int .u64) s2.2.2)] 5000 rfl c0 ?_)))
    refine run_if rfl rfl (fun h13=>?_) (fun h13=>?_)
    ·replace F2:=ift h13 F2
     obtain ⟨h14,F2⟩:=ifg F2
     obtain ⟨h15,F2⟩:=ifg F2
     obtain ⟨h16,F2⟩:=ifg F2
     obtain ⟨h17,F2⟩:=ifg F2
     refine sk rfl (sq rfl (bk rfl (sq rfl (rC [(0,.row 0),(3,vi s2.1),(4,.sub 0 1 (toNat s1) (length x0-toNat s1)),(5,vi s2.2.1),(44,vb ((getD s2.2.2 ((toNat s1)+toNat s2.2.1) 0) != (getD s2.2.2 ((toNat s1)+toNat (wrap .i64 (s2.2.1-1))) 0)))] [(0,.row 23 (.int .u64) s2.2.2)] [] [] 5000 rfl (cc h14 (cc (@rfl Nat (((toNat s1)+toNat s2.2.1)*1)) (cc (And.intro h15 trivial) (cc h16 (cc (@rfl Nat (((toNat s1)+toNat (wrap .i64 (s2.2.1-1)))*1)) (cc (And.intro h17 trivial) c0)))))) ?_))))
     refine run_if rfl rfl (fun h18=>?_) (fun h18=>?_)
     ·replace F2:=ift h18 F2
      obtain ⟨h19,F2⟩:=ifg F2
      obtain ⟨h20,F2⟩:=ifg F2
      obtain ⟨h21,F2⟩:=ifg F2
      refine sq rfl ?_
      refine sE (oE [0,3,4,5] [0] 5000 rfl (oE [0,3,4,5] [0] 5000 rfl (eE (oE [0,3,4,5] [0] 5000 rfl (fA [(0,.row 0),(3,vi (wrap .i64 (s2.1+1))),(4,.sub 0 1 (toNat s1) (length x0-toNat s1)),(5,vi (wrap .i64 (s2.2.1+1)))] [(0,.row 23 (.int .u64) (List.set s2.2.2 (toNat s2.1) (getD s2.2.2 ((toNat s1)+toNat s2.2.1) 0)))] (cc h19 (cc (@rfl Nat (((toNat s1)+toNat s2.2.1)*1)) (cc (And.intro h20 trivial) (cc h21 (cc (@rfl Nat (toNat s2.1*1)) (cc (oo h21 trivial) c0)))))) ?_)))))
      exact ih2 _ (inj F2).symm
     ·replace F2:=ifn h18 F2
      refine sk rfl (eb (rB [(0,.row 0),(3,vi s2.1),(4,.sub 0 1 (toNat s1) (length x0-toNat s1)),(5,vi (wrap .i64 (s2.2.1+1)))] [(0,.row 23 (.int .u64) s2.2.2)] 5000 rfl c0 ?_))
      exact ih2 _ (inj F2).symm
    ·replace F2:=ifn h13 F2
     refine run_exit rfl rfl (tm (ρ':=[(0,.row 0),(3,vi s2.1)]) (H':=[(0,.row 23 (.int .u64) s2.2.2)]) (by kernel_rfl) (by kernel_rfl) rfl ?_)
     exact J2_0 _ (inrI hr2 F2).symm
   ·replace F1:=ifn h6 F1
    refine sk rfl (eb (rB [(0,.row 0),(3,vi (wrap .i64 (s1+1)))] [(0,.row 23 (.int .u64) x0)] 5000 rfl c0 ?_))
    exact ih1 _ (inj F1).symm
  ·replace F1:=ifn h3 F1
   refine run_exit rfl rfl (tm (ρ':=[(0,.row 0)]) (H':=[(0,.row 23 (.int .u64) x0)]) (by kernel_rfl) (by kernel_rfl) rfl ?_)
   exact J1_1 _ (inrI hr1 F1).symm
noncomputable def F_sched_Sessions_b1 (x0:(List S58.ty)) (s1:(Int×(List Int))):Option ((Int×(List Int))⊕(List Int)) :=
 if (decide (s1.1<((length x0:Nat):Int)))=true then if 0≤s1.1∧s1.1<((length x0:Nat):Int) then (if apOk (length s1.2+1) 8 then (some (Sum.inl (wrap .i64 (s1.1+1),s1.2++[(getD x0 (toNat s1.1) S58.dflt).2.2.2.1]))) else none) else none else some (Sum.inr s1.2)
noncomputable def F_sched_Sessions (x0:(List S58.ty)):Option (List Int) :=
 (loopO (F_sched_Sessions_b1 x0) (0,[])).bind (fun r1=>(F_slices_Sort_uint64_uint64 r1).bind fun t1=>((F_slices_Compact_uint64_uint64 t1).bind fun t2=>(some t2)))
theorem W_sched_Sessions {x0:(List S58.ty)} {y:(List Int)} (F0:F_sched_Sessions x0=some y):Pure Tryz.prog 138 [.v (.sl S58) x0] (.v (.sl (.int .u64)) y):=by
 unfold F_sched_Sessions at F0
 refine pure_of_run @Tryz.call138 @Tryz.func138 rfl rfl fun w M ho=>?_
 refine sq rfl ?_
 refine sE (oE [0] [] 5000 rfl (qE rfl (oE [0,3] [] 5000 rfl (qE rfl (qE rfl (oE [3,6,7,8] [] 5000 rfl (fA [(3,.v (.nl .any) ()),(6,.v (.sl S58) x0),(7,vi ((length x0:Nat):Int)),(8,vi 0)] [] c0 (bk rfl (run_nilrow (ρ':=[(3,.row 1103),(6,.v (.sl S58) x0),(7,vi ((length x0:Nat):Int)),(8,vi 0)]) 3 1103 23 (.int .u64) rfl (by kernel_rfl) (by kernel_rfl) ?_)))))))))
 obtain ⟨r1,hl1,F0⟩:=obd F0
 refine run_cutx 0 rfl (fun r1'=>r1=r1') (fun r1=>[(3,.row 1103)]) (fun r1=>[(1103,.row 23 (.int .u64) r1)]) (fun r1' h1=>?_) (fun J1_0=>?_)
 ·subst h1
  obtain ⟨t1,h2,F0⟩:=obd F0
  obtain ⟨t2,h3,F0⟩:=obd F0
  refine sq rfl ?_
  refine sE (rE [3] [1103] [(1,⟨[.v .unit],.tup [],some ([1103],[(0,.row 23 (.int .u64) t1)])⟩)] [] 5000 rfl (qE rfl (rE [2] [5021] [(1,⟨[.v .unit],.row 1,some ([1103],[(1,.row 23 (.int .u64) t2)])⟩)] [] 5000 rfl (fA [(2,.row 5021)] [(5021,.row 23 (.int .u64) t2)] (cc (W_slices_Sort_uint64_uint64 h2) (cc (W_slices_Compact_uint64_uint64 h3) c0)) ?_))))
  obtain rfl:=inj F0
  refine run_frz (ρ':=[(2,.v (.sl (.int .u64)) t2)]) (H':=[]) 5021 rfl rfl rfl (by kernel_rfl) (by kernel_rfl) ?_
  exact ret_pure (q:=[.v (.sl (.int .u64)) t2]) [(.sl (.int .u64))] rfl rfl (by kernel_rfl)
 refine run_loop rfl (run_loopO hl1 (fun s1=>[(3,.row 1103),(6,.v (.sl S58) x0),(7,vi ((length x0:Nat):Int)),(8,vi s1.1)]) (fun s1=>[(1103,.row 23 (.int .u64) s1.2)]) rfl rfl (fun s1 o1 F1 ih1 hr1=>?_))
 unfold F_sched_Sessions_b1 at F1
 refine run_again (sq rfl (rB [(3,.row 1103),(6,.v (.sl S58) x0),(7,vi ((length x0:Nat):Int)),(8,vi s1.1),(9,vb (decide (s1.1<((length x0:Nat):Int))))] [(1103,.row 23 (.int .u64) s1.2)] 5000 rfl c0 (sq rfl ?_)))
 refine run_if rfl rfl (fun h4=>?_) (fun h4=>?_)
 ·replace F1:=ift h4 F1
  obtain ⟨h5,F1⟩:=ifg F1
  obtain ⟨h6,F1⟩:=ifg F1
  refine sk rfl (sq rfl (bk rfl (sq rfl ?_)))
  refine sE (oE [3,5,6,7,8] [1103,5040] 5000 rfl (oE [3,6,7,8] [5121] 5041 rfl (eE (oE [3,6,7,8] [5121] 5122 rfl (fA [(3,.row 5121),(6,.v (.sl S58) x0),(7,vi ((length x0:Nat):Int)),(8,vi (wrap .i64 (s1.1+1)))] [(5121,.row 23 (.int .u64) (s1.2++[(getD x0 (toNat s1.1) S58.dflt).2.2.2.1]))] (cc h5 (cc h6.1 (cc h6.2 c0))) (run_ren (ρ':=[(3,.row 1103),(6,.v (.sl S58) x0),(7,vi ((length x0:Nat):Int)),(8,vi (wrap .i64 (s1.1+1)))]) (H':=[(1103,.row 23 (.int .u64) (s1.2++[(getD x0 (toNat s1.1) S58.dflt).2.2.2.1]))]) 5121 1103 rfl (by kernel_rfl) rfl (by kernel_rfl) rfl ?_))))))
  exact ih1 _ (inj F1).symm
 ·replace F1:=ifn h4 F1
  refine run_exit rfl rfl (tm (ρ':=[(3,.row 1103)]) (H':=[(1103,.row 23 (.int .u64) s1.2)]) (by kernel_rfl) (by kernel_rfl) rfl ?_)
  exact J1_0 _ (inrI hr1 F1).symm
noncomputable def F_slices_IndexFunc_uint64_uint64_b1 (x0:(List Int)) (x1:(Int→Option Bool)) (s1:Int):Option (Int⊕(Int⊕Unit)) :=
 if (decide (s1<((length x0:Nat):Int)))=true then if 0≤s1∧s1<((length x0:Nat):Int) then (x1 (getD x0 (toNat s1) 0)).bind fun t1=>(if (t1)=true then some (Sum.inr (Sum.inl s1)) else some (Sum.inl (wrap .i64 (s1+1)))) else none else some (Sum.inr (Sum.inr ()))
noncomputable def F_slices_IndexFunc_uint64_uint64 (x0:(List Int)) (x1:(Int→Option Bool)):Option Int :=
 (loopO (F_slices_IndexFunc_uint64_uint64_b1 x0 x1) 0).bind (Sum.elim some (fun j11=>some (-1)))
theorem W_slices_IndexFunc_uint64_uint64 {x0:(List Int)} {x1:(Int→Option Bool)} {y:Int} (F0:F_slices_IndexFunc_uint64_uint64 x0 x1=some y):Pure Tryz.prog 139 [.v (.sl (.int .u64)) x0,.v (.fn (.int .u64) .bool) x1] (vi y):=by
 unfold F_slices_IndexFunc_uint64_uint64 at F0
 refine pure_of_run @Tryz.call139 @Tryz.func139 rfl rfl fun w M ho=>?_
 obtain ⟨r1,hl1,F0⟩:=obd F0
 refine sq rfl ?_
 refine sE (oE [0,1] [] 5000 rfl (qE rfl (qE rfl (oE [0,1,7,8] [] 5000 rfl (fA [(0,.v (.sl (.int .u64)) x0),(1,.v (.fn (.int .u64) .bool) x1),(7,vi ((length x0:Nat):Int)),(8,vi 0)] [] c0 (bk rfl ?_))))))
 refine run_cutx 0 rfl (fun j11=>r1=Sum.inr j11) (fun j11=>[]) (fun j11=>[]) (fun j11 h1=>?_) (fun J1_1=>?_)
 ·subst h1
  replace F0:=sumR F0
  refine sq rfl (rB [(4,vi (-1))] [] 5000 rfl c0 ?_)
  obtain rfl:=inj F0
  exact ret_pure (q:=[vi (-1)]) [(.int .i64)] rfl rfl (by kernel_rfl)
 refine run_loop rfl (run_loopO hl1 (fun s1=>[(0,.v (.sl (.int .u64)) x0),(1,.v (.fn (.int .u64) .bool) x1),(7,vi ((length x0:Nat):Int)),(8,vi s1)]) (fun s1=>[]) rfl rfl (fun s1 o1 F1 ih1 hr1=>?_))
 unfold F_slices_IndexFunc_uint64_uint64_b1 at F1
 refine run_again (sq rfl (rB [(0,.v (.sl (.int .u64)) x0),(1,.v (.fn (.int .u64) .bool) x1),(7,vi ((length x0:Nat):Int)),(8,vi s1),(9,vb (decide (s1<((length x0:Nat):Int))))] [] 5000 rfl c0 (sq rfl ?_)))
 refine run_if rfl rfl (fun h2=>?_) (fun h2=>?_)
 ·replace F1:=ift h2 F1
  obtain ⟨h3,F1⟩:=ifg F1
  obtain ⟨t1,h4,F1⟩:=obd F1
  refine sk rfl (sq rfl (bk rfl (sq rfl ?_)))
  refine sE (oE [0,1,5,7,8] [] 5000 rfl (qE rfl (rE [0,1,5,7,8,16] [] [(5,⟨[],vb t1,none⟩)] [] 5000 rfl (fA [(0,.v (.sl (.int .u64)) x0),(1,.v (.fn (.int .u64) .bool) x1),(5,vi s1),(7,vi ((length x0:Nat):Int)),(8,vi s1),(16,vb t1)] [] (cc h3 (cc h4 c0)) ?_))))
  refine run_if rfl rfl (fun h5=>?_) (fun h5=>?_)
  ·replace F1:=ift h5 F1
   refine sq rfl (rB [(4,vi s1)] [] 5000 rfl c0 ?_)
   have e1:=inrI hr1 F1
   subst e1
   replace F0:=sumL F0
   obtain rfl:=inj F0
   exact ret_pure (q:=[vi s1]) [(.int .i64)] rfl rfl (by kernel_rfl)
  ·replace F1:=ifn h5 F1
   refine sk rfl (eb (rB [(0,.v (.sl (.int .u64)) x0),(1,.v (.fn (.int .u64) .bool) x1),(7,vi ((length x0:Nat):Int)),(8,vi (wrap .i64 (s1+1)))] [] 5000 rfl c0 ?_))
   exact ih1 _ (inj F1).symm
 ·replace F1:=ifn h2 F1
  refine run_exit rfl rfl (tm (ρ':=[]) (H':=[]) (by kernel_rfl) (by kernel_rfl) rfl ?_)
  exact J1_1 _ (inrI hr1 F1).symm
noncomputable def F_sched_Turn_1 (x0:Int) (x1:Int):Option Bool :=
 some (decide (x0>x1))
theorem W_sched_Turn_1 {x0:Int} {x1:Int} {y:Bool} (F0:F_sched_Turn_1 x0 x1=some y):Pure Tryz.prog 140 [vu x0,.fp (.int .u64) x1] (vb y):=by
 unfold F_sched_Turn_1 at F0
 refine pure_of_run @Tryz.call140 @Tryz.func140 rfl rfl fun w M ho=>?_
 refine sq rfl ?_
 refine sE (oE [0,1] [] 5000 rfl (qE rfl (oE [3] [] 5000 rfl (fA [(3,vb (decide (x0>x1)))] [] c0 ?_))))
 obtain rfl:=inj F0
 exact ret_pure (q:=[vb (decide (x0>x1))]) [.bool] rfl rfl (by kernel_rfl)
noncomputable def F_sched_Turn_2 (x0:S58.ty) (x1:Int):Option Bool :=
 some (x0.2.2.2.1==x1)
theorem W_sched_Turn_2 {x0:S58.ty} {x1:Int} {y:Bool} (F0:F_sched_Turn_2 x0 x1=some y):Pure Tryz.prog 142 [.v S58 x0,.fp (.int .u64) x1] (vb y):=by
 unfold F_sched_Turn_2 at F0
 refine pure_of_run @Tryz.call142 @Tryz.func142 rfl rfl fun w M ho=>?_
 refine sq rfl ?_
 refine sE (oE [1,2] [5000] 5000 rfl (qE rfl (oE [3] [] 5001 rfl (fA [(3,vb (x0.2.2.2.1==x1))] [] c0 ?_))))
 obtain rfl:=inj F0
 exact ret_pure (q:=[vb (x0.2.2.2.1==x1)]) [.bool] rfl rfl (by kernel_rfl)
noncomputable def F_sched_Turn (x0:(List S58.ty)) (x1:Int):Option (Int×Bool) :=
 (F_sched_Sessions x0).bind fun t1=>(if (((length t1:Nat):Int)==0)=true then some (0,false) else if 0≤(0:Int)∧(0:Int)<((length t1:Nat):Int) then (F_slices_IndexFunc_uint64_uint64 t1 (fun x=>F_sched_Turn_1 x x1)).bind fun t2=>(if (decide (t2≥0))=true then if 0≤t2∧t2<((length t1:Nat):Int) then (F_slices_IndexFunc_api_Entry_api_Entry x0 (fun x=>F_sched_Turn_2 x (getD t1 (toNat t2) 0))).bind fun t3=>(some (t3,true)) else none else (F_slices_IndexFunc_api_Entry_api_Entry x0 (fun x=>F_sched_Turn_2 x (getD t1 (toNat 0) 0))).bind fun t4=>(some (t4,true))) else none)
theorem W_sched_Turn {x0:(List S58.ty)} {x1:Int} {y:(Int×Bool)} (F0:F_sched_Turn x0 x1=some y):Pure Tryz.prog 87 [.v (.sl S58) x0,vu x1] (.tup [vi y.1,vb y.2]):=by
 unfold F_sched_Turn at F0
 refine pure_of_run @Tryz.call87 @Tryz.func87 rfl rfl fun w M ho=>?_
 obtain ⟨t1,h1,F0⟩:=obd F0
 refine sq rfl ?_
 refine sE (oE [0,3] [5000] 5000 rfl (qE rfl (rE [0,3,6] [5000] [(1,⟨[.v (.sl S58)],.v (.sl (.int .u64)) t1,none⟩)] [] 5001 rfl (qE rfl (qE rfl (oE [0,3,6,13] [5000] 5001 rfl (fA [(0,.v (.sl S58) x0),(3,.ptr 5000 [] 0),(6,.v (.sl (.int .u64)) t1),(13,vb (((length t1:Nat):Int)==0))] [(5000,.var 23 (.int .u64) x1)] (cc (W_sched_Sessions h1) c0) ?_)))))))
 refine run_if rfl rfl (fun h2=>?_) (fun h2=>?_)
 ·replace F0:=ift h2 F0
  refine sq rfl (rB [(4,vi 0),(5,vb false)] [] 5001 rfl c0 ?_)
  obtain rfl:=inj F0
  exact ret_pure (q:=[vi 0,vb false]) [(.int .i64),.bool] rfl rfl (by kernel_rfl)
 ·replace F0:=ifn h2 F0
  obtain ⟨h3,F0⟩:=ifg F0
  obtain ⟨t2,h4,F0⟩:=obd F0
  refine sk rfl (sq rfl ?_)
  refine sE (oE [0,3,6,7] [5000,5061] 5001 rfl (qE rfl (qE rfl (rE [0,6,7,8] [5061] [(2,⟨[.v (.sl (.int .u64)),.fn (.int .u64) .bool (fun x=>F_sched_Turn_1 x x1)],vi t2,none⟩)] [] 5062 rfl (qE rfl (oE [0,6,7,8,21] [5061] 5062 rfl (fA [(0,.v (.sl S58) x0),(6,.v (.sl (.int .u64)) t1),(7,.ptr 5061 [] 0),(8,vi t2),(21,vb (decide (t2≥0)))] [(5061,.var 23 (.int .u64) (getD t1 (toNat 0) 0))] (cc h3 (cc (show Enters Tryz.prog 140 from Tryz.call140) (cc (show ∀x y,(fun x=>F_sched_Turn_1 x x1) x=some y→Pure Tryz.prog 140 (.v (.int .u64) x::[.fp (.int .u64) x1]) (.v .bool y) from fun x y h=>W_sched_Turn_1 h) (cc (W_slices_IndexFunc_uint64_uint64 h4) c0)))) ?_)))))))
  refine run_if rfl rfl (fun h5=>?_) (fun h5=>?_)
  ·replace F0:=ift h5 F0
   obtain ⟨h6,F0⟩:=ifg F0
   obtain ⟨t3,h7,F0⟩:=obd F0
   refine sE (oE [0,7] [5061] 5062 rfl (qE rfl (rE [4,5] [] [(2,⟨[.v (.sl S58),.fn S58 .bool (fun x=>F_sched_Turn_2 x (getD t1 (toNat t2) 0))],vi t3,none⟩)] [] 5062 rfl (fA [(4,vi t3),(5,vb true)] [] (cc h6 (cc (show Enters Tryz.prog 142 from Tryz.call142) (cc (show ∀x y,(fun x=>F_sched_Turn_2 x (getD t1 (toNat t2) 0)) x=some y→Pure Tryz.prog 142 (.v S58 x::[.fp (.int .u64) (getD t1 (toNat t2) 0)]) (.v .bool y) from fun x y h=>W_sched_Turn_2 h) (cc (W_slices_IndexFunc_api_Entry_api_Entry h7) c0)))) ?_))))
   obtain rfl:=inj F0
   exact ret_pure (q:=[vi t3,vb true]) [(.int .i64),.bool] rfl rfl (by kernel_rfl)
  ·replace F0:=ifn h5 F0
   obtain ⟨t4,h8,F0⟩:=obd F0
   refine sk rfl (sq rfl (rA [(4,vi t4),(5,vb true)] [] [(2,⟨[.v (.sl S58),.fn S58 .bool (fun x=>F_sched_Turn_2 x (getD t1 (toNat 0) 0))],vi t4,none⟩)] [] 5062 rfl (cc (show Enters Tryz.prog 142 from Tryz.call142) (cc (show ∀x y,(fun x=>F_sched_Turn_2 x (getD t1 (toNat 0) 0)) x=some y→Pure Tryz.prog 142 (.v S58 x::[.fp (.int .u64) (getD t1 (toNat 0) 0)]) (.v .bool y) from fun x y h=>W_sched_Turn_2 h) (cc (W_slices_IndexFunc_api_Entry_api_Entry h8) c0))) ?_))
   obtain rfl:=inj F0
   exact ret_pure (q:=[vi t4,vb true]) [(.int .i64),.bool] rfl rfl (by kernel_rfl)
noncomputable def F_sched_Fill_b1 (x2:Int) (s1:(Int×Int×(List S58.ty)×(List S58.ty))):Option ((Int×Int×(List S58.ty)×(List S58.ty))⊕(Int×(List S58.ty)×(List S58.ty))) :=
 if (decide (s1.2.1<(mx 0 (mn x2 16))))=true then (F_sched_Turn s1.2.2.1 s1.1).bind fun t2=>(if (!t2.2)=true then some (Sum.inr (s1.1,s1.2.2.1,s1.2.2.2)) else if 0≤t2.1∧t2.1<((length s1.2.2.1:Nat):Int) then (if apOk (length s1.2.2.2+1) 56 then (if 0≤t2.1∧t2.1<((length s1.2.2.1:Nat):Int) then (F_slices_Delete_api_Entry_api_Entry s1.2.2.1 t2.1 (wrap .i64 (t2.1+1))).bind fun t3=>(some (Sum.inl ((getD s1.2.2.1 (toNat t2.1) S58.dflt).2.2.2.1,wrap .i64 (s1.2.1+1),t3,s1.2.2.2++[getD s1.2.2.1 (toNat t2.1) S58.dflt]))) else none) else none) else none) else some (Sum.inr (s1.1,s1.2.2.1,s1.2.2.2))
noncomputable def F_sched_Fill (x0:(List S58.ty)) (x1:Int) (x2:Int):Option ((List S58.ty)×(List S58.ty)×Int) :=
 (F_slices_Clone_api_Entry_api_Entry x0).bind fun t1=>((loopO (F_sched_Fill_b1 x2) (x1,0,t1,[])).bind (fun r1=>some (r1.2.2,r1.2.1,r1.1)))
theorem W_sched_Fill {x0:(List S58.ty)} {x1:Int} {x2:Int} {y:((List S58.ty)×(List S58.ty)×Int)} (F0:F_sched_Fill x0 x1 x2=some y):Mut Tryz.prog 45 0 [.v (.sl S58) x0,vu x1,vi x2] [] (.tup [.row 0,.row 1,vu y.2.2]) [(0,.row 58 S58 y.1),(1,.row 58 S58 y.2.1)]:=by
 unfold F_sched_Fill at F0
 refine mut_of_run @Tryz.call45 @Tryz.func45 rfl rfl fun b=>?_
 obtain ⟨t1,h1,F0⟩:=obd F0
 refine sq rfl ?_
 refine sE (oE [0,1,2] [] 5000 rfl (qE rfl (rE [1,2,9] [5020] [(1,⟨[.v (.sl S58)],.row 0,some ([],[(0,.row 58 S58 t1)])⟩)] [] 5000 rfl (qE rfl (oE [1,2,9,10] [5020] 5021 rfl (qE rfl (qE rfl (oE [1,9,10,17,18] [5020] 5021 rfl (fA [(1,vu x1),(9,.row 5020),(10,.v (.nl .any) ()),(17,vi (mx 0 (mn x2 16))),(18,vi 0)] [(5020,.row 58 S58 t1)] (cc (W_slices_Clone_api_Entry_api_Entry h1) c0) (bk rfl (run_ren (ρ':=[(1,vu x1),(9,.row 1109),(10,.v (.nl .any) ()),(17,vi (mx 0 (mn x2 16))),(18,vi 0)]) (H':=[(1109,.row 58 S58 t1)]) 5020 1109 rfl (by kernel_rfl) rfl (by kernel_rfl) rfl (run_nilrow (ρ':=[(1,vu x1),(9,.row 1109),(10,.row 1110),(17,vi (mx 0 (mn x2 16))),(18,vi 0)]) 10 1110 58 S58 rfl (by kernel_rfl) (by kernel_rfl) (tm (ρ':=[(1,vu x1),(9,.row 1109),(10,.row 1110),(17,vi (mx 0 (mn x2 16))),(18,vi 0)]) (H':=[(1109,.row 58 S58 t1),(1110,.row 58 S58 [])]) (by kernel_rfl) (by kernel_rfl) rfl ?_)))))))))))))
 obtain ⟨r1,hl1,F0⟩:=obd F0
 refine run_cutx 0 rfl (fun r1'=>r1=r1') (fun r1=>[(1,vu r1.1),(9,.row 1109),(10,.row 1110)]) (fun r1=>[(1109,.row 58 S58 r1.2.1),(1110,.row 58 S58 r1.2.2)]) (fun r1' h2=>?_) (fun J1_0=>?_)
 ·subst h2
  refine sq rfl (rB [(6,.row 1110),(7,.row 1109),(8,vu r1.1)] [(1109,.row 58 S58 r1.2.1),(1110,.row 58 S58 r1.2.2)] 5000 rfl c0 (run_ren (ρ':=[(6,.row 0),(7,.row 1109),(8,vu r1.1)]) (H':=[(0,.row 58 S58 r1.2.2),(1109,.row 58 S58 r1.2.1)]) 1110 0 rfl (by kernel_rfl) rfl (by kernel_rfl) rfl (run_ren (ρ':=[(6,.row 0),(7,.row 1),(8,vu r1.1)]) (H':=[(1,.row 58 S58 r1.2.1),(0,.row 58 S58 r1.2.2)]) 1109 1 rfl (by kernel_rfl) rfl (by kernel_rfl) rfl ?_)))
  obtain rfl:=inj F0
  exact ret_mut (q:=[.row 0,.row 1,vu r1.1]) [none,none,some (.int .u64)] [0,1] rfl rfl (by kernel_rfl) rfl (by kernel_rfl)
 refine run_loop rfl (run_loopO hl1 (fun s1=>[(1,vu s1.1),(9,.row 1109),(10,.row 1110),(17,vi (mx 0 (mn x2 16))),(18,vi s1.2.1)]) (fun s1=>[(1109,.row 58 S58 s1.2.2.1),(1110,.row 58 S58 s1.2.2.2)]) rfl rfl (fun s1 o1 F1 ih1 hr1=>?_))
 unfold F_sched_Fill_b1 at F1
 refine run_again (sq rfl (rB [(1,vu s1.1),(9,.row 1109),(10,.row 1110),(17,vi (mx 0 (mn x2 16))),(18,vi s1.2.1),(19,vb (decide (s1.2.1<(mx 0 (mn x2 16)))))] [(1109,.row 58 S58 s1.2.2.1),(1110,.row 58 S58 s1.2.2.2)] 5000 rfl c0 (sq rfl ?_)))
 refine run_if rfl rfl (fun h3=>?_) (fun h3=>?_)
 ·replace F1:=ift h3 F1
  obtain ⟨t2,h4,F1⟩:=obd F1
  refine sk rfl (sq rfl (bk rfl (sq rfl ?_)))
  refine sE (rE [1,9,10,11,12,17,18] [1109,1110] [(2,⟨[.v (.sl S58),.v (.int .u64)],.tup [vi t2.1,vb t2.2],none⟩)] [] 5000 rfl (qE rfl (qE rfl (oE [1,9,10,11,17,18,27] [1109,1110] 5000 rfl (fA [(1,vu s1.1),(9,.row 1109),(10,.row 1110),(11,vi t2.1),(17,vi (mx 0 (mn x2 16))),(18,vi s1.2.1),(27,vb (!t2.2))] [(1109,.row 58 S58 s1.2.2.1),(1110,.row 58 S58 s1.2.2.2)] (cc (W_sched_Turn h4) c0) ?_)))))
  refine run_if rfl rfl (fun h5=>?_) (fun h5=>?_)
  ·replace F1:=ift h5 F1
   refine run_exit rfl rfl (tm (ρ':=[(1,vu s1.1),(9,.row 1109),(10,.row 1110)]) (H':=[(1109,.row 58 S58 s1.2.2.1),(1110,.row 58 S58 s1.2.2.2)]) (by kernel_rfl) (by kernel_rfl) rfl ?_)
   exact J1_0 _ (inrI hr1 F1).symm
  ·replace F1:=ifn h5 F1
   obtain ⟨h6,F1⟩:=ifg F1
   obtain ⟨h7,F1⟩:=ifg F1
   obtain ⟨h8,F1⟩:=ifg F1
   obtain ⟨t3,h9,F1⟩:=obd F1
   refine sk rfl (sq rfl ?_)
   refine sE (oE [9,10,11,17,18] [1109,5120] 5000 rfl (qE rfl (oE [1,9,10,11,17,18] [1109,5120] 5121 rfl (rE [1,9,10,17,18] [5120,5202] [(4,⟨[.v .unit,.v (.int .i64),.v (.int .i64)],.row 1,some ([1109],[(1,.row 58 S58 t3)])⟩)] [] 5121 rfl (eE (oE [1,9,10,17,18] [5120,5202] 5203 rfl (fA [(1,vu (getD s1.2.2.1 (toNat t2.1) S58.dflt).2.2.2.1),(9,.row 5202),(10,.row 5120),(17,vi (mx 0 (mn x2 16))),(18,vi (wrap .i64 (s1.2.1+1)))] [(5120,.row 58 S58 (s1.2.2.2++[getD s1.2.2.1 (toNat t2.1) S58.dflt])),(5202,.row 58 S58 t3)] (cc h6 (cc (@rfl Nat (toNat t2.1*6)) (cc (oo h6 trivial) (cc h7.1 (cc h7.2 (cc h8 (cc (@rfl Nat ((toNat t2.1*6)+3)) (cc (oo h8 trivial) (cc (W_slices_Delete_api_Entry_api_Entry h9) c0))))))))) (run_ren (ρ':=[(1,vu (getD s1.2.2.1 (toNat t2.1) S58.dflt).2.2.2.1),(9,.row 1109),(10,.row 5120),(17,vi (mx 0 (mn x2 16))),(18,vi (wrap .i64 (s1.2.1+1)))]) (H':=[(1109,.row 58 S58 t3),(5120,.row 58 S58 (s1.2.2.2++[getD s1.2.2.1 (toNat t2.1) S58.dflt]))]) 5202 1109 rfl (by kernel_rfl) rfl (by kernel_rfl) rfl (run_ren (ρ':=[(1,vu (getD s1.2.2.1 (toNat t2.1) S58.dflt).2.2.2.1),(9,.row 1109),(10,.row 1110),(17,vi (mx 0 (mn x2 16))),(18,vi (wrap .i64 (s1.2.1+1)))]) (H':=[(1110,.row 58 S58 (s1.2.2.2++[getD s1.2.2.1 (toNat t2.1) S58.dflt])),(1109,.row 58 S58 t3)]) 5120 1110 rfl (by kernel_rfl) rfl (by kernel_rfl) rfl (tm (ρ':=[(1,vu (getD s1.2.2.1 (toNat t2.1) S58.dflt).2.2.2.1),(9,.row 1109),(10,.row 1110),(17,vi (mx 0 (mn x2 16))),(18,vi (wrap .i64 (s1.2.1+1)))]) (H':=[(1109,.row 58 S58 t3),(1110,.row 58 S58 (s1.2.2.2++[getD s1.2.2.1 (toNat t2.1) S58.dflt]))]) (by kernel_rfl) (by kernel_rfl) rfl ?_))))))))))
   exact ih1 _ (inj F1).symm
 ·replace F1:=ifn h3 F1
  refine run_exit rfl rfl (tm (ρ':=[(1,vu s1.1),(9,.row 1109),(10,.row 1110)]) (H':=[(1109,.row 58 S58 s1.2.2.1),(1110,.row 58 S58 s1.2.2.2)]) (by kernel_rfl) (by kernel_rfl) rfl ?_)
  exact J1_0 _ (inrI hr1 F1).symm
noncomputable def F_lane_Emit (x0:S38.ty):Option (S38.ty×(List S58.ty)) :=
 (F_lane_Copy x0).bind fun t1=>(if ((0:Int)≤mn ((length t1.2.2.2.2.2.2.2.1:Nat):Int) 2∧0≤toNat (mn ((length t1.2.2.2.2.2.2.2.1:Nat):Int) 2)∧toNat (mn ((length t1.2.2.2.2.2.2.2.1:Nat):Int) 2)≤length t1.2.2.2.2.2.2.2.1) then (if 0+(toNat (mn ((length t1.2.2.2.2.2.2.2.1:Nat):Int) 2)-0)≤length t1.2.2.2.2.2.2.2.1 then (F_slices_Clone_api_Entry_api_Entry (take (toNat (mn ((length t1.2.2.2.2.2.2.2.1:Nat):Int) 2)-0) (drop 0 t1.2.2.2.2.2.2.2.1))).bind fun t2=>((F_slices_Delete_api_Entry_api_Entry t1.2.2.2.2.2.2.2.1 0 (mn ((length t1.2.2.2.2.2.2.2.1:Nat):Int) 2)).bind fun t3=>((F_sched_Fill t1.2.2.2.2.2.2.2.2.1 t1.2.2.2.2.2.2.2.2.2.1 (wrap .i64 ((2:Int)-(mn ((length t1.2.2.2.2.2.2.2.1:Nat):Int) 2)))).bind fun t4=>(if apOk (length t2+(length t4.1)) 56 then (some ((t1.1,t1.2.1,t1.2.2.1,t1.2.2.2.1,t1.2.2.2.2.1,t1.2.2.2.2.2.1,t1.2.2.2.2.2.2.1,t3,t4.2.1,t4.2.2,t1.2.2.2.2.2.2.2.2.2.2),t2++t4.1)) else none))) else none) else none)
theorem W_lane_Emit {x0:S38.ty} {y:(S38.ty×(List S58.ty))} (F0:F_lane_Emit x0=some y):Pure Tryz.prog 17 [.v S38 x0] (.tup [.v S38 y.1,.v (.sl S58) y.2]):=by
 unfold F_lane_Emit at F0
 refine pure_of_run @Tryz.call17 @Tryz.func17 rfl rfl fun w M ho=>?_
 obtain ⟨t1,h1,F0⟩:=obd F0
 refine sq rfl ?_
 refine sE (oE [1,2] [5000,5020] 5000 rfl (zE 5020 1064 [.u,.r,.r,.r,.r,.r,.r,.l] 43 S43 (zE 5020 1065 [.u,.r,.r,.r,.r,.r,.r,.r,.l] 58 S58 (zE 5020 1066 [.u,.r,.r,.r,.r,.r,.r,.r,.r,.l] 58 S58 (qE rfl (rE [2,4] [1064,1065,1066,5020,5061,8601,8602,8603,8604,8605,8606,8607,8608,8609] [(1,⟨[.v S38],.v (.st (.prod (.int .i64) (.prod (.int .i64) (.prod .ref (.prod (.int .i64) (.prod (.st (.prod (.int .u64) .ref)) (.prod .ref (.prod .ref (.prod .ref (.prod .ref (.prod (.int .u64) (.prod .ref (.prod .ref (.prod S33 (.prod (.arr 8 (.int .u32)) (.prod (.int .u64) .ref)))))))))))))))) (t1.1,t1.2.1,3560,t1.2.2.2.1,(t1.2.2.2.2.1.1,3561),3562,3563,3564,3565,t1.2.2.2.2.2.2.2.2.2.1,3566,3567,t1.2.2.2.2.2.2.2.2.2.2.2.2.1,t1.2.2.2.2.2.2.2.2.2.2.2.2.2.1,t1.2.2.2.2.2.2.2.2.2.2.2.2.2.2.1,3568),some ([],[(3560,.row 23 (.int .u64) t1.2.2.1),(3561,.row 120 S120 t1.2.2.2.2.1.2),(3562,.row 56 S56 t1.2.2.2.2.2.1),(3563,.row 43 S43 t1.2.2.2.2.2.2.1),(3564,.row 58 S58 t1.2.2.2.2.2.2.2.1),(3565,.row 58 S58 t1.2.2.2.2.2.2.2.2.1),(3566,.row 43 S43 t1.2.2.2.2.2.2.2.2.2.2.1),(3567,.row 115 S115 t1.2.2.2.2.2.2.2.2.2.2.2.1),(3568,.row 53 S53 t1.2.2.2.2.2.2.2.2.2.2.2.2.2.2.2)])⟩)] [] 5021 rfl (fA [(2,.ptr 5020 [] 0),(4,.ptr 5061 [] 0)] [(1064,.row 43 S43 []),(1065,.row 58 S58 []),(1066,.row 58 S58 []),(5020,.var 38 (.st (.prod (.int .i64) (.prod (.int .i64) (.prod (.nl (.int .u64)) (.prod (.int .i64) (.prod Z26 (.prod (.nl S56) (.prod .ref (.prod .ref (.prod .ref (.prod (.int .u64) (.prod (.nl S43) (.prod (.nl S115) (.prod S33 (.prod (.arr 8 (.int .u32)) (.prod (.int .u64) (.nl S53))))))))))))))))) (0,0,(),0,(0,()),(),1064,1065,1066,0,(),(),(0,0,0),replicate 8 0,0,())),(5061,.var 38 (.st (.prod (.int .i64) (.prod (.int .i64) (.prod .ref (.prod (.int .i64) (.prod (.st (.prod (.int .u64) .ref)) (.prod .ref (.prod .ref (.prod .ref (.prod .ref (.prod (.int .u64) (.prod .ref (.prod .ref (.prod S33 (.prod (.arr 8 (.int .u32)) (.prod (.int .u64) .ref)))))))))))))))) (t1.1,t1.2.1,8601,t1.2.2.2.1,(t1.2.2.2.2.1.1,8602),8603,8604,8605,8606,t1.2.2.2.2.2.2.2.2.2.1,8607,8608,t1.2.2.2.2.2.2.2.2.2.2.2.2.1,t1.2.2.2.2.2.2.2.2.2.2.2.2.2.1,t1.2.2.2.2.2.2.2.2.2.2.2.2.2.2.1,8609)),(8601,.row 23 (.int .u64) t1.2.2.1),(8602,.row 120 S120 t1.2.2.2.2.1.2),(8603,.row 56 S56 t1.2.2.2.2.2.1),(8604,.row 43 S43 t1.2.2.2.2.2.2.1),(8605,.row 58 S58 t1.2.2.2.2.2.2.2.1),(8606,.row 58 S58 t1.2.2.2.2.2.2.2.2.1),(8607,.row 43 S43 t1.2.2.2.2.2.2.2.2.2.2.1),(8608,.row 115 S115 t1.2.2.2.2.2.2.2.2.2.2.2.1),(8609,.row 53 S53 t1.2.2.2.2.2.2.2.2.2.2.2.2.2.2.2)] (cc (W_lane_Copy h1) c0) (run_frzC (ρ':=[(2,.ptr 5020 [] 0),(4,.ptr 5061 [] 0)]) (H':=[(1064,.row 43 S43 []),(1065,.row 58 S58 []),(1066,.row 58 S58 []),(5020,.var 38 (.st (.prod (.int .i64) (.prod (.int .i64) (.prod (.nl (.int .u64)) (.prod (.int .i64) (.prod Z26 (.prod (.nl S56) (.prod .ref (.prod .ref (.prod .ref (.prod (.int .u64) (.prod (.nl S43) (.prod (.nl S115) (.prod S33 (.prod (.arr 8 (.int .u32)) (.prod (.int .u64) (.nl S53))))))))))))))))) (0,0,(),0,(0,()),(),1064,1065,1066,0,(),(),(0,0,0),replicate 8 0,0,())),(5061,.var 38 (.st (.prod (.int .i64) (.prod (.int .i64) (.prod (.sl (.int .u64)) (.prod (.int .i64) (.prod (.st (.prod (.int .u64) .ref)) (.prod .ref (.prod .ref (.prod .ref (.prod .ref (.prod (.int .u64) (.prod .ref (.prod .ref (.prod S33 (.prod (.arr 8 (.int .u32)) (.prod (.int .u64) .ref)))))))))))))))) (t1.1,t1.2.1,t1.2.2.1,t1.2.2.2.1,(t1.2.2.2.2.1.1,8602),8603,8604,8605,8606,t1.2.2.2.2.2.2.2.2.2.1,8607,8608,t1.2.2.2.2.2.2.2.2.2.2.2.2.1,t1.2.2.2.2.2.2.2.2.2.2.2.2.2.1,t1.2.2.2.2.2.2.2.2.2.2.2.2.2.2.1,8609)),(8602,.row 120 S120 t1.2.2.2.2.1.2),(8603,.row 56 S56 t1.2.2.2.2.2.1),(8604,.row 43 S43 t1.2.2.2.2.2.2.1),(8605,.row 58 S58 t1.2.2.2.2.2.2.2.1),(8606,.row 58 S58 t1.2.2.2.2.2.2.2.2.1),(8607,.row 43 S43 t1.2.2.2.2.2.2.2.2.2.2.1),(8608,.row 115 S115 t1.2.2.2.2.2.2.2.2.2.2.2.1),(8609,.row 53 S53 t1.2.2.2.2.2.2.2.2.2.2.2.2.2.2.2)]) 8601 rfl rfl rfl (by kernel_rfl) (by kernel_rfl) (run_frzC (ρ':=[(2,.ptr 5020 [] 0),(4,.ptr 5061 [] 0)]) (H':=[(1064,.row 43 S43 []),(1065,.row 58 S58 []),(1066,.row 58 S58 []),(5020,.var 38 (.st (.prod (.int .i64) (.prod (.int .i64) (.prod (.nl (.int .u64)) (.prod (.int .i64) (.prod Z26 (.prod (.nl S56) (.prod .ref (.prod .ref (.prod .ref (.prod (.int .u64) (.prod (.nl S43) (.prod (.nl S115) (.prod S33 (.prod (.arr 8 (.int .u32)) (.prod (.int .u64) (.nl S53))))))))))))))))) (0,0,(),0,(0,()),(),1064,1065,1066,0,(),(),(0,0,0),replicate 8 0,0,())),(5061,.var 38 (.st (.prod (.int .i64) (.prod (.int .i64) (.prod (.sl (.int .u64)) (.prod (.int .i64) (.prod S26 (.prod .ref (.prod .ref (.prod .ref (.prod .ref (.prod (.int .u64) (.prod .ref (.prod .ref (.prod S33 (.prod (.arr 8 (.int .u32)) (.prod (.int .u64) .ref)))))))))))))))) (t1.1,t1.2.1,t1.2.2.1,t1.2.2.2.1,t1.2.2.2.2.1,8603,8604,8605,8606,t1.2.2.2.2.2.2.2.2.2.1,8607,8608,t1.2.2.2.2.2.2.2.2.2.2.2.2.1,t1.2.2.2.2.2.2.2.2.2.2.2.2.2.1,t1.2.2.2.2.2.2.2.2.2.2.2.2.2.2.1,8609)),(8603,.row 56 S56 t1.2.2.2.2.2.1),(8604,.row 43 S43 t1.2.2.2.2.2.2.1),(8605,.row 58 S58 t1.2.2.2.2.2.2.2.1),(8606,.row 58 S58 t1.2.2.2.2.2.2.2.2.1),(8607,.row 43 S43 t1.2.2.2.2.2.2.2.2.2.2.1),(8608,.row 115 S115 t1.2.2.2.2.2.2.2.2.2.2.2.1),(8609,.row 53 S53 t1.2.2.2.2.2.2.2.2.2.2.2.2.2.2.2)]) 8602 rfl rfl rfl (by kernel_rfl) (by kernel_rfl) (run_frzC (ρ':=[(2,.ptr 5020 [] 0),(4,.ptr 5061 [] 0)]) (H':=[(1064,.row 43 S43 []),(1065,.row 58 S58 []),(1066,.row 58 S58 []),(5020,.var 38 (.st (.prod (.int .i64) (.prod (.int .i64) (.prod (.nl (.int .u64)) (.prod (.int .i64) (.prod Z26 (.prod (.nl S56) (.prod .ref (.prod .ref (.prod .ref (.prod (.int .u64) (.prod (.nl S43) (.prod (.nl S115) (.prod S33 (.prod (.arr 8 (.int .u32)) (.prod (.int .u64) (.nl S53))))))))))))))))) (0,0,(),0,(0,()),(),1064,1065,1066,0,(),(),(0,0,0),replicate 8 0,0,())),(5061,.var 38 (.st (.prod (.int .i64) (.prod (.int .i64) (.prod (.sl (.int .u64)) (.prod (.int .i64) (.prod S26 (.prod (.sl S56) (.prod .ref (.prod .ref (.prod .ref (.prod (.int .u64) (.prod .ref (.prod .ref (.prod S33 (.prod (.arr 8 (.int .u32)) (.prod (.int .u64) .ref)))))))))))))))) (t1.1,t1.2.1,t1.2.2.1,t1.2.2.2.1,t1.2.2.2.2.1,t1.2.2.2.2.2.1,8604,8605,8606,t1.2.2.2.2.2.2.2.2.2.1,8607,8608,t1.2.2.2.2.2.2.2.2.2.2.2.2.1,t1.2.2.2.2.2.2.2.2.2.2.2.2.2.1,t1.2.2.2.2.2.2.2.2.2.2.2.2.2.2.1,8609)),(8604,.row 43 S43 t1.2.2.2.2.2.2.1),(8605,.row 58 S58 t1.2.2.2.2.2.2.2.1),(8606,.row 58 S58 t1.2.2.2.2.2.2.2.2.1),(8607,.row 43 S43 t1.2.2.2.2.2.2.2.2.2.2.1),(8608,.row 115 S115 t1.2.2.2.2.2.2.2.2.2.2.2.1),(8609,.row 53 S53 t1.2.2.2.2.2.2.2.2.2.2.2.2.2.2.2)]) 8603 rfl rfl rfl (by kernel_rfl) (by kernel_rfl) (run_frzC (ρ':=[(2,.ptr 5020 [] 0),(4,.ptr 5061 [] 0)]) (H':=[(1064,.row 43 S43 []),(1065,.row 58 S58 []),(1066,.row 58 S58 []),(5020,.var 38 (.st (.prod (.int .i64) (.prod (.int .i64) (.prod (.nl (.int .u64)) (.prod (.int .i64) (.prod Z26 (.prod (.nl S56) (.prod .ref (.prod .ref (.prod .ref (.prod (.int .u64) (.prod (.nl S43) (.prod (.nl S115) (.prod S33 (.prod (.arr 8 (.int .u32)) (.prod (.int .u64) (.nl S53))))))))))))))))) (0,0,(),0,(0,()),(),1064,1065,1066,0,(),(),(0,0,0),replicate 8 0,0,())),(5061,.var 38 (.st (.prod (.int .i64) (.prod (.int .i64) (.prod (.sl (.int .u64)) (.prod (.int .i64) (.prod S26 (.prod (.sl S56) (.prod .ref (.prod .ref (.prod .ref (.prod (.int .u64) (.prod (.sl S43) (.prod .ref (.prod S33 (.prod (.arr 8 (.int .u32)) (.prod (.int .u64) .ref)))))))))))))))) (t1.1,t1.2.1,t1.2.2.1,t1.2.2.2.1,t1.2.2.2.2.1,t1.2.2.2.2.2.1,8604,8605,8606,t1.2.2.2.2.2.2.2.2.2.1,t1.2.2.2.2.2.2.2.2.2.2.1,8608,t1.2.2.2.2.2.2.2.2.2.2.2.2.1,t1.2.2.2.2.2.2.2.2.2.2.2.2.2.1,t1.2.2.2.2.2.2.2.2.2.2.2.2.2.2.1,8609)),(8604,.row 43 S43 t1.2.2.2.2.2.2.1),(8605,.row 58 S58 t1.2.2.2.2.2.2.2.1),(8606,.row 58 S58 t1.2.2.2.2.2.2.2.2.1),(8608,.row 115 S115 t1.2.2.2.2.2.2.2.2.2.2.2.1),(8609,.row 53 S53 t1.2.2.2.2.2.2.2.2.2.2.2.2.2.2.2)]) 8607 rfl rfl rfl (by kernel_rfl) (by kernel_rfl) (run_frzC (ρ':=[(2,.ptr 5020 [] 0),(4,.ptr 5061 [] 0)]) (H':=[(1064,.row 43 S43 []),(1065,.row 58 S58 []),(1066,.row 58 S58 []),(5020,.var 38 (.st (.prod (.int .i64) (.prod (.int .i64) (.prod (.nl (.int .u64)) (.prod (.int .i64) (.prod Z26 (.prod (.nl S56) (.prod .ref (.prod .ref (.prod .ref (.prod (.int .u64) (.prod (.nl S43) (.prod (.nl S115) (.prod S33 (.prod (.arr 8 (.int .u32)) (.prod (.int .u64) (.nl S53))))))))))))))))) (0,0,(),0,(0,()),(),1064,1065,1066,0,(),(),(0,0,0),replicate 8 0,0,())),(5061,.var 38 (.st (.prod (.int .i64) (.prod (.int .i64) (.prod (.sl (.int .u64)) (.prod (.int .i64) (.prod S26 (.prod (.sl S56) (.prod .ref (.prod .ref (.prod .ref (.prod (.int .u64) (.prod (.sl S43) (.prod (.sl S115) (.prod S33 (.prod (.arr 8 (.int .u32)) (.prod (.int .u64) .ref)))))))))))))))) (t1.1,t1.2.1,t1.2.2.1,t1.2.2.2.1,t1.2.2.2.2.1,t1.2.2.2.2.2.1,8604,8605,8606,t1.2.2.2.2.2.2.2.2.2.1,t1.2.2.2.2.2.2.2.2.2.2.1,t1.2.2.2.2.2.2.2.2.2.2.2.1,t1.2.2.2.2.2.2.2.2.2.2.2.2.1,t1.2.2.2.2.2.2.2.2.2.2.2.2.2.1,t1.2.2.2.2.2.2.2.2.2.2.2.2.2.2.1,8609)),(8604,.row 43 S43 t1.2.2.2.2.2.2.1),(8605,.row 58 S58 t1.2.2.2.2.2.2.2.1),(8606,.row 58 S58 t1.2.2.2.2.2.2.2.2.1),(8609,.row 53 S53 t1.2.2.2.2.2.2.2.2.2.2.2.2.2.2.2)]) 8608 rfl rfl rfl (by kernel_rfl) (by kernel_rfl) (run_frzC (ρ':=[(2,.ptr 5020 [] 0),(4,.ptr 5061 [] 0)]) (H':=[(1064,.row 43 S43 []),(1065,.row 58 S58 []),(1066,.row 58 S58 []),(5020,.var 38 (.st (.prod (.int .i64) (.prod (.int .i64) (.prod (.nl (.int .u64)) (.prod (.int .i64) (.prod Z26 (.prod (.nl S56) (.prod .ref (.prod .ref (.prod .ref (.prod (.int .u64) (.prod (.nl S43) (.prod (.nl S115) (.prod S33 (.prod (.arr 8 (.int .u32)) (.prod (.int .u64) (.nl S53))))))))))))))))) (0,0,(),0,(0,()),(),1064,1065,1066,0,(),(),(0,0,0),replicate 8 0,0,())),(5061,.var 38 O38 (t1.1,t1.2.1,t1.2.2.1,t1.2.2.2.1,t1.2.2.2.2.1,t1.2.2.2.2.2.1,8604,8605,8606,t1.2.2.2.2.2.2.2.2.2)),(8604,.row 43 S43 t1.2.2.2.2.2.2.1),(8605,.row 58 S58 t1.2.2.2.2.2.2.2.1),(8606,.row 58 S58 t1.2.2.2.2.2.2.2.2.1)]) 8609 rfl rfl rfl (by kernel_rfl) (by kernel_rfl) ?_)))))))))))))
 obtain ⟨h2,F0⟩:=ifg F0
 obtain ⟨h3,F0⟩:=ifg F0
 obtain ⟨t2,h4,F0⟩:=obd F0
 obtain ⟨t3,h5,F0⟩:=obd F0
 obtain ⟨t4,h6,F0⟩:=obd F0
 obtain ⟨h7,F0⟩:=ifg F0
 refine sE (nE 8604 1128 (nE 8605 1129 (nE 8606 1130 (qE rfl (oE [2,4,5] [1064,1065,1066,1128,1129,1130,5020,5061] 5062 rfl (qE rfl (rE [2,4,5,6] [1064,1065,1066,1128,1129,1130,5020,5061,5142] [(4,⟨[.v (.sl S58)],.row 0,some ([],[(0,.row 58 S58 t2)])⟩)] [] 5062 rfl (qE rfl (rE [2,4,5,6] [1064,1065,1066,1128,1130,5020,5061,5142,5204] [(3,⟨[.v .unit,.v (.int .i64),.v (.int .i64)],.row 1,some ([1129],[(1,.row 58 S58 t3)])⟩)] [] 5143 rfl (nE 5204 1129 (qE rfl (rE [2,4,6,7,8,9] [1064,1065,1066,1128,1129,1130,5020,5061,5142,5263,5264] [(6,⟨[.v (.sl S58),.v (.int .u64),.v (.int .i64)],.tup [.row 0,.row 1,vu t4.2.2],some ([],[(0,.row 58 S58 t4.1),(1,.row 58 S58 t4.2.1)])⟩)] [] 5143 rfl (qE rfl (oE [2,4,6,7] [1064,1065,1066,1128,1129,5020,5061,5142,5263,5264] 5265 rfl (nE 5264 1130 (qE rfl (gE [2,3] [1128,1129,1130,5020,5324] [] [] 5264 rfl rfl (nE 1128 1064 (nE 1129 1065 (nE 1130 1066 (fA [(2,.ptr 5020 [] 0),(3,.row 5324)] [(1066,.row 58 S58 t4.2.1),(1065,.row 58 S58 t3),(1064,.row 43 S43 t1.2.2.2.2.2.2.1),(5020,.var 38 O38 (t1.1,t1.2.1,t1.2.2.1,t1.2.2.2.1,t1.2.2.2.2.1,t1.2.2.2.2.2.1,1064,1065,1066,t4.2.2,t1.2.2.2.2.2.2.2.2.2.2)),(5324,.row 58 S58 (t2++t4.1))] (cc h2.1 (cc h2.2.1 (cc h2.2.2 (cc h3 (cc (W_slices_Clone_api_Entry_api_Entry h4) (cc (W_slices_Delete_api_Entry_api_Entry h5) (cc (W_sched_Fill h6) (cc h7.1 (cc h7.2 (cc (rr (.v O38 (t1.1,t1.2.1,t1.2.2.1,t1.2.2.2.1,t1.2.2.2.2.1,t1.2.2.2.2.2.1,1128,1129,1130,t4.2.2,t1.2.2.2.2.2.2.2.2.2.2))) c0)))))))))) ?_)))))))))))))))))))))
 obtain rfl:=inj F0
 refine tm (ρ':=[(2,.ptr 5020 [] 0),(3,.row 5324)]) (H':=[(1064,.row 43 S43 t1.2.2.2.2.2.2.1),(1065,.row 58 S58 t3),(1066,.row 58 S58 t4.2.1),(5020,.var 38 O38 (t1.1,t1.2.1,t1.2.2.1,t1.2.2.2.1,t1.2.2.2.2.1,t1.2.2.2.2.2.1,1064,1065,1066,t4.2.2,t1.2.2.2.2.2.2.2.2.2.2)),(5324,.row 58 S58 (t2++t4.1))]) (by kernel_rfl) (by kernel_rfl) rfl (run_frzC (ρ':=[(2,.ptr 5020 [] 0),(3,.row 5324)]) (H':=[(1065,.row 58 S58 t3),(1066,.row 58 S58 t4.2.1),(5020,.var 38 (.st (.prod (.int .i64) (.prod (.int .i64) (.prod (.sl (.int .u64)) (.prod (.int .i64) (.prod S26 (.prod (.sl S56) (.prod (.sl S43) (.prod .ref (.prod .ref (.prod (.int .u64) (.prod (.sl S43) (.prod (.sl S115) (.prod S33 (.prod (.arr 8 (.int .u32)) (.prod (.int .u64) (.sl S53))))))))))))))))) (t1.1,t1.2.1,t1.2.2.1,t1.2.2.2.1,t1.2.2.2.2.1,t1.2.2.2.2.2.1,t1.2.2.2.2.2.2.1,1065,1066,t4.2.2,t1.2.2.2.2.2.2.2.2.2.2)),(5324,.row 58 S58 (t2++t4.1))]) 1064 rfl rfl rfl (by kernel_rfl) (by kernel_rfl) (run_frzC (ρ':=[(2,.ptr 5020 [] 0),(3,.row 5324)]) (H':=[(1066,.row 58 S58 t4.2.1),(5020,.var 38 (.st (.prod (.int .i64) (.prod (.int .i64) (.prod (.sl (.int .u64)) (.prod (.int .i64) (.prod S26 (.prod (.sl S56) (.prod (.sl S43) (.prod (.sl S58) (.prod .ref (.prod (.int .u64) (.prod (.sl S43) (.prod (.sl S115) (.prod S33 (.prod (.arr 8 (.int .u32)) (.prod (.int .u64) (.sl S53))))))))))))))))) (t1.1,t1.2.1,t1.2.2.1,t1.2.2.2.1,t1.2.2.2.2.1,t1.2.2.2.2.2.1,t1.2.2.2.2.2.2.1,t3,1066,t4.2.2,t1.2.2.2.2.2.2.2.2.2.2)),(5324,.row 58 S58 (t2++t4.1))]) 1065 rfl rfl rfl (by kernel_rfl) (by kernel_rfl) (run_frzC (ρ':=[(2,.ptr 5020 [] 0),(3,.row 5324)]) (H':=[(5020,.var 38 S38 (t1.1,t1.2.1,t1.2.2.1,t1.2.2.2.1,t1.2.2.2.2.1,t1.2.2.2.2.2.1,t1.2.2.2.2.2.2.1,t3,t4.2.1,t4.2.2,t1.2.2.2.2.2.2.2.2.2.2)),(5324,.row 58 S58 (t2++t4.1))]) 1066 rfl rfl rfl (by kernel_rfl) (by kernel_rfl) (run_frz (ρ':=[(2,.ptr 5020 [] 0),(3,.v (.sl S58) (t2++t4.1))]) (H':=[(5020,.var 38 S38 (t1.1,t1.2.1,t1.2.2.1,t1.2.2.2.1,t1.2.2.2.2.1,t1.2.2.2.2.2.1,t1.2.2.2.2.2.2.1,t3,t4.2.1,t4.2.2,t1.2.2.2.2.2.2.2.2.2.2))]) 5324 rfl rfl rfl (by kernel_rfl) (by kernel_rfl) ?_))))
 exact ret_pure (q:=[.v S38 (t1.1,t1.2.1,t1.2.2.1,t1.2.2.2.1,t1.2.2.2.2.1,t1.2.2.2.2.2.1,t1.2.2.2.2.2.2.1,t3,t4.2.1,t4.2.2,t1.2.2.2.2.2.2.2.2.2.2),.v (.sl S58) (t2++t4.1)]) [S38,(.sl S58)] rfl rfl (by kernel_rfl)
end Go.Proofs.YtglfdihomfhmmaaGreatDoor
set_option maxRecDepth 100000
namespace Go.Proofs.YtglfdihomfhmmaaGreatDoor
open Go.RowKit
noncomputable def F_congressref16_Find_b1 (x0:(List S56.ty)) (x1:Int) (s1:Int):Option (Int⊕(Int⊕Unit)) :=
 if (decide (s1<((length x0:Nat):Int)))=true then if 0≤s1∧s1<((length x0:Nat):Int) then (if ((getD x0 (toNat s1) S56.dflt).1==x1)=true then some (Sum.inr (Sum.inl s1)) else some (Sum.inl (wrap .i64 (s1+1)))) else none else some (Sum.inr (Sum.inr ()))
noncomputable def F_congressref16_Find (x0:(List S56.ty)) (x1:Int):Option Int :=
 (loopO (F_congressref16_Find_b1 x0 x1) 0).bind (Sum.elim some (fun j11=>some (-1)))
theorem W_congressref16_Find {x0:(List S56.ty)} {x1:Int} {y:Int} (F0:F_congressref16_Find x0 x1=some y):Pure Tryz.prog 42 [.v (.sl S56) x0,vu x1] (vi y):=by
 unfold F_congressref16_Find at F0
 refine pure_of_run @Tryz.call42 @Tryz.func42 rfl rfl fun w M ho=>?_
 obtain ⟨r1,hl1,F0⟩:=obd F0
 refine sq rfl ?_
 refine sE (oE [0,1] [] 5000 rfl (qE rfl (qE rfl (oE [0,1,5] [] 5000 rfl (fA [(0,.v (.sl S56) x0),(1,vu x1),(5,vi 0)] [] c0 (bk rfl ?_))))))
 refine run_cutx 0 rfl (fun j11=>r1=Sum.inr j11) (fun j11=>[]) (fun j11=>[]) (fun j11 h1=>?_) (fun J1_1=>?_)
 ·subst h1
  replace F0:=sumR F0
  refine sq rfl (rB [(4,vi (-1))] [] 5000 rfl c0 ?_)
  obtain rfl:=inj F0
  exact ret_pure (q:=[vi (-1)]) [(.int .i64)] rfl rfl (by kernel_rfl)
 refine run_loop rfl (run_loopO hl1 (fun s1=>[(0,.v (.sl S56) x0),(1,vu x1),(5,vi s1)]) (fun s1=>[]) rfl rfl (fun s1 o1 F1 ih1 hr1=>?_))
 unfold F_congressref16_Find_b1 at F1
 refine run_again (sq rfl (sq rfl (rB [(0,.v (.sl S56) x0),(1,vu x1),(5,vi s1),(9,vb (decide (s1<((length x0:Nat):Int))))] [] 5000 rfl c0 ?_)))
 refine run_if rfl rfl (fun h2=>?_) (fun h2=>?_)
 ·replace F1:=ift h2 F1
  obtain ⟨h3,F1⟩:=ifg F1
  refine sk rfl (sq rfl (bk rfl (sq rfl (rB [(0,.v (.sl S56) x0),(1,vu x1),(5,vi s1),(18,vb ((getD x0 (toNat s1) S56.dflt).1==x1))] [] 5000 rfl (cc h3 c0) ?_))))
  refine run_if rfl rfl (fun h4=>?_) (fun h4=>?_)
  ·replace F1:=ift h4 F1
   refine sq rfl (rB [(4,vi s1)] [] 5000 rfl c0 ?_)
   have e1:=inrI hr1 F1
   subst e1
   replace F0:=sumL F0
   obtain rfl:=inj F0
   exact ret_pure (q:=[vi s1]) [(.int .i64)] rfl rfl (by kernel_rfl)
  ·replace F1:=ifn h4 F1
   refine sk rfl (eb (rB [(0,.v (.sl S56) x0),(1,vu x1),(5,vi (wrap .i64 (s1+1)))] [] 5000 rfl c0 ?_))
   exact ih1 _ (inj F1).symm
 ·replace F1:=ifn h2 F1
  refine run_exit rfl rfl (tm (ρ':=[]) (H':=[]) (by kernel_rfl) (by kernel_rfl) rfl ?_)
  exact J1_1 _ (inrI hr1 F1).symm
noncomputable def F_congressref16_May_b1 (x0:(List S56.ty)) (s1:Int):Option (Int⊕(Bool⊕Unit)) :=
 if (decide (s1<((length x0:Nat):Int)))=true then (show Option Bool from if 0≤s1∧s1<((length x0:Nat):Int) then (if ((getD x0 (toNat s1) S56.dflt).1==0)=true then some true else if 0≤s1∧s1<((length x0:Nat):Int) then (if (decide ((getD x0 (toNat s1) S56.dflt).2.2.1<1))=true then some true else if 0≤s1∧s1<((length x0:Nat):Int) then (if (decide ((getD x0 (toNat s1) S56.dflt).2.2.1>7))=true then some true else if 0≤s1∧s1<((length x0:Nat):Int) then (F_congressref16_Find x0 (getD x0 (toNat s1) S56.dflt).1).bind fun t1=>(some (t1 != s1)) else none) else none) else none) else none).bind (fun r2=>if (r2)=true then some (Sum.inr (Sum.inl false)) else some (Sum.inl (wrap .i64 (s1+1)))) else some (Sum.inr (Sum.inr ()))
noncomputable def F_congressref16_May (x0:(List S56.ty)):Option Bool :=
 (loopO (F_congressref16_May_b1 x0) 0).bind (Sum.elim some (fun j11=>some (decide (((length x0:Nat):Int)≤16))))
theorem W_congressref16_May {x0:(List S56.ty)} {y:Bool} (F0:F_congressref16_May x0=some y):Pure Tryz.prog 26 [.v (.sl S56) x0] (vb y):=by
 unfold F_congressref16_May at F0
 refine pure_of_run @Tryz.call26 @Tryz.func26 rfl rfl fun w M ho=>?_
 obtain ⟨r1,hl1,F0⟩:=obd F0
 refine sq rfl ?_
 refine sE (oE [0] [] 5000 rfl (qE rfl (qE rfl (oE [0,3] [] 5000 rfl (fA [(0,.v (.sl S56) x0),(3,vi 0)] [] c0 (bk rfl ?_))))))
 refine run_cutx 0 rfl (fun j11=>r1=Sum.inr j11) (fun j11=>[(0,.v (.sl S56) x0)]) (fun j11=>[]) (fun j11 h1=>?_) (fun J1_1=>?_)
 ·subst h1
  replace F0:=sumR F0
  refine sq rfl (rB [(2,vb (decide (((length x0:Nat):Int)≤16)))] [] 5000 rfl c0 ?_)
  obtain rfl:=inj F0
  exact ret_pure (q:=[vb (decide (((length x0:Nat):Int)≤16))]) [.bool] rfl rfl (by kernel_rfl)
 refine run_loop rfl (run_loopO hl1 (fun s1=>[(0,.v (.sl S56) x0),(3,vi s1)]) (fun s1=>[]) rfl rfl (fun s1 o1 F1 ih1 hr1=>?_))
 unfold F_congressref16_May_b1 at F1
 refine run_again (sq rfl (sq rfl (rB [(0,.v (.sl S56) x0),(3,vi s1),(7,vb (decide (s1<((length x0:Nat):Int))))] [] 5000 rfl c0 ?_)))
 refine run_if rfl rfl (fun h2=>?_) (fun h2=>?_)
 ·replace F1:=ift h2 F1
  obtain ⟨r2,F2,F1⟩:=obd F1
  refine sk rfl (sq rfl (bk rfl (sq rfl ?_)))
  refine run_cut (fun r2'=>r2=r2') (fun r2=>[(0,.v (.sl S56) x0),(3,vi s1),(42,vb r2)]) (fun r2=>[]) (fun r2' h3=>?_) (fun J2_0=>?_)
  ·subst h3
   refine run_if rfl rfl (fun h4=>?_) (fun h4=>?_)
   ·replace F1:=ift h4 F1
    refine sq rfl (rB [(2,vb false)] [] 5000 rfl c0 ?_)
    have e1:=inrI hr1 F1
    subst e1
    replace F0:=sumL F0
    obtain rfl:=inj F0
    exact ret_pure (q:=[vb false]) [.bool] rfl rfl (by kernel_rfl)
   ·replace F1:=ifn h4 F1
    refine sk rfl (eb (rB [(0,.v (.sl S56) x0),(3,vi (wrap .i64 (s1+1)))] [] 5000 rfl c0 ?_))
    exact ih1 _ (inj F1).symm
  obtain ⟨h5,F2⟩:=ifg F2
  rcases Bool.eq_false_or_eq_true ((getD x0 (toNat s1) S56.dflt).1==0) with h6|h6
  ·replace F2:=ift h6 F2
   refine rA [(0,.v (.sl S56) x0),(3,vi s1),(42,vb true)] [] [] [(6,true)] 5000 rfl (cc h5 (cc h6 c0)) ?_
   exact J2_0 _ (inj F2).symm
  ·replace F2:=ifn h6 F2
   obtain ⟨h7,F2⟩:=ifg F2
   rcases Bool.eq_false_or_eq_true (decide ((getD x0 (toNat s1) S56.dflt).2.2.1<1)) with h8|h8
   ·replace F2:=ift h8 F2
    refine rA [(0,.v (.sl S56) x0),(3,vi s1),(42,vb true)] [] [] [(6,false),(14,true)] 5000 rfl (cc h5 (cc h6 (cc h7 (cc h8 c0)))) ?_
    exact J2_0 _ (inj F2).symm
   ·replace F2:=ifn h8 F2
    obtain ⟨h9,F2⟩:=ifg F2
    rcases Bool.eq_false_or_eq_true (decide ((getD x0 (toNat s1) S56.dflt).2.2.1>7)) with h10|h10
    ·replace F2:=ift h10 F2
     refine rA [(0,.v (.sl S56) x0),(3,vi s1),(42,vb true)] [] [] [(6,false),(14,false),(22,true)] 5000 rfl (cc h5 (cc h6 (cc h7 (cc h8 (cc h9 (cc h10 c0)))))) ?_
     exact J2_0 _ (inj F2).symm
    ·replace F2:=ifn h10 F2
     obtain ⟨h11,F2⟩:=ifg F2
     obtain ⟨t1,h12,F2⟩:=obd F2
     refine rA [(0,.v (.sl S56) x0),(3,vi s1),(42,vb (t1 != s1))] [] [(29,⟨[.v (.sl S56),.v (.int .u64)],vi t1,none⟩)] [(6,false),(14,false),(22,false)] 5000 rfl (cc h5 (cc h6 (cc h7 (cc h8 (cc h9 (cc h10 (cc h11 (cc (W_congressref16_Find h12) c0)))))))) ?_
     exact J2_0 _ (inj F2).symm
 ·replace F1:=ifn h2 F1
  refine run_exit rfl rfl (tm (ρ':=[(0,.v (.sl S56) x0)]) (H':=[]) (by kernel_rfl) (by kernel_rfl) rfl ?_)
  exact J1_1 _ (inrI hr1 F1).symm
noncomputable def F_congressref17_May_b1 (x0:S26.ty) (s1:Int):Option (Int⊕(Bool⊕Unit)) :=
 if (decide (s1<((length x0.2:Nat):Int)))=true then if 0≤s1∧s1<((length x0.2:Nat):Int) then (show Option Bool from if (decide ((getD x0.2 (toNat s1) S120.dflt).1<1))=true then some true else if (decide ((getD x0.2 (toNat s1) S120.dflt).1>x0.1))=true then some true else if (decide ((getD x0.2 (toNat s1) S120.dflt).2>4294967295))=true then some true else if (decide (s1>0))=true then if 0≤(wrap .i64 (s1-1))∧(wrap .i64 (s1-1))<((length x0.2:Nat):Int) then (some (decide ((getD x0.2 (toNat (wrap .i64 (s1-1))) S120.dflt).1≥(getD x0.2 (toNat s1) S120.dflt).1))) else none else some false).bind (fun r3=>if (r3)=true then some (Sum.inr (Sum.inl false)) else some (Sum.inl (wrap .i64 (s1+1)))) else none else some (Sum.inr (Sum.inr ()))
noncomputable def F_congressref17_May (x0:S26.ty):Option Bool :=
 (loopO (F_congressref17_May_b1 x0) 0).bind (Sum.elim some (fun j11=>(show Option Bool from if (decide (((length x0.2:Nat):Int)≤4))=true then some (decide (x0.1≤65535)) else some false).bind (fun r2=>some r2)))
theorem W_congressref17_May {x0:S26.ty} {y:Bool} (F0:F_congressref17_May x0=some y):Pure Tryz.prog 25 [.v S26 x0] (vb y):=by
 unfold F_congressref17_May at F0
 refine pure_of_run @Tryz.call25 @Tryz.func25 rfl rfl fun w M ho=>?_
 obtain ⟨r1,hl1,F0⟩:=obd F0
 refine sq rfl ?_
 refine sE (oE [1] [5000] 5000 rfl (qE rfl (qE rfl (oE [1,3] [5000] 5001 rfl (fA [(1,.ptr 5000 [] 0),(3,vi 0)] [(5000,.var 26 S26 x0)] c0 (bk rfl ?_))))))
 refine run_cutx 0 rfl (fun j11=>r1=Sum.inr j11) (fun j11=>[(1,.ptr 5000 [] 0)]) (fun j11=>[(5000,.var 26 S26 x0)]) (fun j11 h1=>?_) (fun J1_1=>?_)
 ·subst h1
  replace F0:=sumR F0
  obtain ⟨r2,F1,F0⟩:=obd F0
  refine sq rfl ?_
  refine run_cut (fun r2'=>r2=r2') (fun r2=>[(2,vb r2)]) (fun r2=>[]) (fun r2' h2=>?_) (fun J2_0=>?_)
  ·subst h2
   obtain rfl:=inj F0
   exact ret_pure (q:=[vb r2]) [.bool] rfl rfl (by kernel_rfl)
  rcases Bool.eq_false_or_eq_true (decide (((length x0.2:Nat):Int)≤4)) with h3|h3
  ·replace F1:=ift h3 F1
   refine rA [(2,vb (decide (x0.1≤65535)))] [] [] [(4,true)] 5001 rfl (cc h3 c0) ?_
   exact J2_0 _ (inj F1).symm
  ·replace F1:=ifn h3 F1
   refine rA [(2,vb false)] [] [] [(4,false)] 5001 rfl (cc h3 c0) ?_
   exact J2_0 _ (inj F1).symm
 refine run_loop rfl (run_loopO hl1 (fun s1=>[(1,.ptr 5000 [] 0),(3,vi s1)]) (fun s1=>[(5000,.var 26 S26 x0)]) rfl rfl (fun s1 o1 F1 ih1 hr1=>?_))
 unfold F_congressref17_May_b1 at F1
 refine run_again (sq rfl (sq rfl (rB [(1,.ptr 5000 [] 0),(3,vi s1),(9,vb (decide (s1<((length x0.2:Nat):Int))))] [(5000,.var 26 S26 x0)] 5001 rfl c0 ?_)))
 refine run_if rfl rfl (fun h4=>?_) (fun h4=>?_)
 ·replace F1:=ift h4 F1
  obtain ⟨h5,F1⟩:=ifg F1
  obtain ⟨r3,F2,F1⟩:=obd F1
  refine sk rfl (sq rfl (bk rfl (sq rfl (rB [(1,.ptr 5000 [] 0),(3,vi s1),(4,.ptr 5101 [] 0)] [(5000,.var 26 S26 x0),(5101,.var 120 S120 (getD x0.2 (toNat s1) S120.dflt))] 5001 rfl (cc h5 c0) (sq rfl ?_)))))
  refine run_cut (fun r3'=>r3=r3') (fun r3=>[(1,.ptr 5000 [] 0),(3,vi s1),(47,vb r3)]) (fun r3=>[(5000,.var 26 S26 x0)]) (fun r3' h6=>?_) (fun J3_0=>?_)
  ·subst h6
   refine run_if rfl rfl (fun h7=>?_) (fun h7=>?_)
   ·replace F1:=ift h7 F1
    refine sq rfl (rB [(2,vb false)] [] 5001 rfl c0 ?_)
    have e1:=inrI hr1 F1
    subst e1
    replace F0:=sumL F0
    obtain rfl:=inj F0
    exact ret_pure (q:=[vb false]) [.bool] rfl rfl (by kernel_rfl)
   ·replace F1:=ifn h7 F1
    refine sk rfl (eb (rB [(1,.ptr 5000 [] 0),(3,vi (wrap .i64 (s1+1)))] [(5000,.var 26 S26 x0)] 5001 rfl c0 ?_))
    exact ih1 _ (inj F1).symm
  rcases Bool.eq_false_or_eq_true (decide ((getD x0.2 (toNat s1) S120.dflt).1<1)) with h8|h8
  ·replace F2:=ift h8 F2
   refine rC [(1,.ptr 5000 [] 0),(3,vi s1),(47,vb true)] [(5000,.var 26 S26 x0)] [] [(3,true)] 5102 rfl (cc h8 c0) ?_
   exact J3_0 _ (inj F2).symm
  ·replace F2:=ifn h8 F2
   rcases Bool.eq_false_or_eq_true (decide ((getD x0.2 (toNat s1) S120.dflt).1>x0.1)) with h9|h9
   ·replace F2:=ift h9 F2
    refine rC [(1,.ptr 5000 [] 0),(3,vi s1),(47,vb true)] [(5000,.var 26 S26 x0)] [] [(3,false),(10,true)] 5102 rfl (cc h8 (cc h9 c0)) ?_
    exact J3_0 _ (inj F2).symm
   ·replace F2:=ifn h9 F2
    rcases Bool.eq_false_or_eq_true (decide ((getD x0.2 (toNat s1) S120.dflt).2>4294967295)) with h10|h10
    ·replace F2:=ift h10 F2
     refine rC [(1,.ptr 5000 [] 0),(3,vi s1),(47,vb true)] [(5000,.var 26 S26 x0)] [] [(3,false),(10,false),(15,true)] 5102 rfl (cc h8 (cc h9 (cc h10 c0))) ?_
     exact J3_0 _ (inj F2).symm
    ·replace F2:=ifn h10 F2
     rcases Bool.eq_false_or_eq_true (decide (s1>0)) with h11|h11
     ·replace F2:=ift h11 F2
      obtain ⟨h12,F2⟩:=ifg F2
      refine rC [(1,.ptr 5000 [] 0),(3,vi s1),(47,vb (decide ((getD x0.2 (toNat (wrap .i64 (s1-1))) S120.dflt).1≥(getD x0.2 (toNat s1) S120.dflt).1)))] [(5000,.var 26 S26 x0)] [] [(3,false),(10,false),(15,false),(18,true)] 5102 rfl (cc h8 (cc h9 (cc h10 (cc h11 (cc h12 c0))))) ?_
      exact J3_0 _ (inj F2).symm
     ·replace F2:=ifn h11 F2
      refine rC [(1,.ptr 5000 [] 0),(3,vi s1),(47,vb false)] [(5000,.var 26 S26 x0)] [] [(3,false),(10,false),(15,false),(18,false)] 5102 rfl (cc h8 (cc h9 (cc h10 (cc h11 c0)))) ?_
      exact J3_0 _ (inj F2).symm
 ·replace F1:=ifn h4 F1
  refine run_exit rfl rfl (tm (ρ':=[(1,.ptr 5000 [] 0)]) (H':=[(5000,.var 26 S26 x0)]) (by kernel_rfl) (by kernel_rfl) rfl ?_)
  exact J1_1 _ (inrI hr1 F1).symm
noncomputable def F_congressref18_Right (x0:S43.ty):Option Bool :=
 (show Option Bool from if (decide (x0.1≥0))=true then if (decide (x0.1≤7))=true then if (decide (x0.2.1≥0))=true then if (decide (x0.2.1≤7))=true then some (decide (x0.2.2<65536)) else some false else some false else some false else some false).bind (fun r1=>some r1)
theorem W_congressref18_Right {x0:S43.ty} {y:Bool} (F0:F_congressref18_Right x0=some y):Pure Tryz.prog 57 [.v S43 x0] (vb y):=by
 unfold F_congressref18_Right at F0
 refine pure_of_run @Tryz.call57 @Tryz.func57 rfl rfl fun w M ho=>?_
 obtain ⟨r1,F1,F0⟩:=obd F0
 refine sq rfl (rB [(1,.ptr 5000 [] 0)] [(5000,.var 43 S43 x0)] 5000 rfl c0 (sq rfl ?_))
 refine run_cut (fun r1'=>r1=r1') (fun r1=>[(2,vb r1)]) (fun r1=>[]) (fun r1' h1=>?_) (fun J1_0=>?_)
 ·subst h1
  obtain rfl:=inj F0
  exact ret_pure (q:=[vb r1]) [.bool] rfl rfl (by kernel_rfl)
 rcases Bool.eq_false_or_eq_true (decide (x0.1≥0)) with h2|h2
 ·replace F1:=ift h2 F1
  rcases Bool.eq_false_or_eq_true (decide (x0.1≤7)) with h3|h3
  ·replace F1:=ift h3 F1
   rcases Bool.eq_false_or_eq_true (decide (x0.2.1≥0)) with h4|h4
   ·replace F1:=ift h4 F1
    rcases Bool.eq_false_or_eq_true (decide (x0.2.1≤7)) with h5|h5
    ·replace F1:=ift h5 F1
     refine rA [(2,vb (decide (x0.2.2<65536)))] [] [] [(3,true),(8,true),(13,true),(18,true)] 5001 rfl (cc h2 (cc h3 (cc h4 (cc h5 c0)))) ?_
     exact J1_0 _ (inj F1).symm
    ·replace F1:=ifn h5 F1
     refine rA [(2,vb false)] [] [] [(3,true),(8,true),(13,true),(18,false)] 5001 rfl (cc h2 (cc h3 (cc h4 (cc h5 c0)))) ?_
     exact J1_0 _ (inj F1).symm
   ·replace F1:=ifn h4 F1
    refine rA [(2,vb false)] [] [] [(3,true),(8,true),(13,false)] 5001 rfl (cc h2 (cc h3 (cc h4 c0))) ?_
    exact J1_0 _ (inj F1).symm
  ·replace F1:=ifn h3 F1
   refine rA [(2,vb false)] [] [] [(3,true),(8,false)] 5001 rfl (cc h2 (cc h3 c0)) ?_
   exact J1_0 _ (inj F1).symm
 ·replace F1:=ifn h2 F1
  refine rA [(2,vb false)] [] [] [(3,false)] 5001 rfl (cc h2 c0) ?_
  exact J1_0 _ (inj F1).symm
noncomputable def F_congressref18_Less (x0:S43.ty) (x1:S43.ty):Option Bool :=
 if (x0.1 != x1.1)=true then some (decide (x0.1<x1.1)) else if (x0.2.1 != x1.2.1)=true then some (decide (x0.2.1<x1.2.1)) else some (decide (x0.2.2<x1.2.2))
theorem W_congressref18_Less {x0:S43.ty} {x1:S43.ty} {y:Bool} (F0:F_congressref18_Less x0 x1=some y):Pure Tryz.prog 58 [.v S43 x0,.v S43 x1] (vb y):=by
 unfold F_congressref18_Less at F0
 refine pure_of_run @Tryz.call58 @Tryz.func58 rfl rfl fun w M ho=>?_
 refine sq rfl ?_
 refine sE (oE [2,3] [5000,5020] 5000 rfl (qE rfl (qE rfl (oE [2,3,9] [5000,5020] 5021 rfl (fA [(2,.ptr 5000 [] 0),(3,.ptr 5020 [] 0),(9,vb (x0.1 != x1.1))] [(5000,.var 43 S43 x0),(5020,.var 43 S43 x1)] c0 ?_)))))
 refine run_if rfl rfl (fun h1=>?_) (fun h1=>?_)
 ·replace F0:=ift h1 F0
  refine sq rfl (rB [(4,vb (decide (x0.1<x1.1)))] [] 5021 rfl c0 ?_)
  obtain rfl:=inj F0
  exact ret_pure (q:=[vb (decide (x0.1<x1.1))]) [.bool] rfl rfl (by kernel_rfl)
 ·replace F0:=ifn h1 F0
  refine sk rfl (sq rfl (sq rfl (rB [(2,.ptr 5000 [] 0),(3,.ptr 5020 [] 0),(19,vb (x0.2.1 != x1.2.1))] [(5000,.var 43 S43 x0),(5020,.var 43 S43 x1)] 5021 rfl c0 ?_)))
  refine run_if rfl rfl (fun h2=>?_) (fun h2=>?_)
  ·replace F0:=ift h2 F0
   refine sq rfl (rB [(4,vb (decide (x0.2.1<x1.2.1)))] [] 5021 rfl c0 ?_)
   obtain rfl:=inj F0
   exact ret_pure (q:=[vb (decide (x0.2.1<x1.2.1))]) [.bool] rfl rfl (by kernel_rfl)
  ·replace F0:=ifn h2 F0
   refine sk rfl (sq rfl (rB [(4,vb (decide (x0.2.2<x1.2.2)))] [] 5021 rfl c0 ?_))
   obtain rfl:=inj F0
   exact ret_pure (q:=[vb (decide (x0.2.2<x1.2.2))]) [.bool] rfl rfl (by kernel_rfl)
noncomputable def F_congressref18_May_b1 (x0:(List S43.ty)) (s1:Int):Option (Int⊕(Bool⊕Unit)) :=
 if (decide (s1<((length x0:Nat):Int)))=true then (show Option Bool from if 0≤s1∧s1<((length x0:Nat):Int) then (F_congressref18_Right (getD x0 (toNat s1) S43.dflt)).bind fun t1=>(if (!t1)=true then some true else if (decide (s1>0))=true then if 0≤(wrap .i64 (s1-1))∧(wrap .i64 (s1-1))<((length x0:Nat):Int) then (if 0≤s1∧s1<((length x0:Nat):Int) then (F_congressref18_Less (getD x0 (toNat (wrap .i64 (s1-1))) S43.dflt) (getD x0 (toNat s1) S43.dflt)).bind fun t2=>(some (!t2)) else none) else none else some false) else none).bind (fun r2=>if (r2)=true then some (Sum.inr (Sum.inl false)) else some (Sum.inl (wrap .i64 (s1+1)))) else some (Sum.inr (Sum.inr ()))
noncomputable def F_congressref18_May (x0:(List S43.ty)):Option Bool :=
 (loopO (F_congressref18_May_b1 x0) 0).bind (Sum.elim some (fun j11=>some true))
theorem W_congressref18_May {x0:(List S43.ty)} {y:Bool} (F0:F_congressref18_May x0=some y):Pure Tryz.prog 27 [.v (.sl S43) x0] (vb y):=by
 unfold F_congressref18_May at F0
 refine pure_of_run @Tryz.call27 @Tryz.func27 rfl rfl fun w M ho=>?_
 obtain ⟨r1,hl1,F0⟩:=obd F0
 refine sq rfl ?_
 refine sE (oE [0] [] 5000 rfl (qE rfl (qE rfl (oE [0,3] [] 5000 rfl (fA [(0,.v (.sl S43) x0),(3,vi 0)] [] c0 (bk rfl ?_))))))
 refine run_cutx 0 rfl (fun j11=>r1=Sum.inr j11) (fun j11=>[]) (fun j11=>[]) (fun j11 h1=>?_) (fun J1_1=>?_)
 ·subst h1
  replace F0:=sumR F0
  refine sq rfl (rB [(2,vb true)] [] 5000 rfl c0 ?_)
  obtain rfl:=inj F0
  exact ret_pure (q:=[vb true]) [.bool] rfl rfl (by kernel_rfl)
 refine run_loop rfl (run_loopO hl1 (fun s1=>[(0,.v (.sl S43) x0),(3,vi s1)]) (fun s1=>[]) rfl rfl (fun s1 o1 F1 ih1 hr1=>?_))
 unfold F_congressref18_May_b1 at F1
 refine run_again (sq rfl (sq rfl (rB [(0,.v (.sl S43) x0),(3,vi s1),(7,vb (decide (s1<((length x0:Nat):Int))))] [] 5000 rfl c0 ?_)))
 refine run_if rfl rfl (fun h2=>?_) (fun h2=>?_)
 ·replace F1:=ift h2 F1
  obtain ⟨r2,F2,F1⟩:=obd F1
  refine sk rfl (sq rfl (bk rfl (sq rfl ?_)))
  refine run_cut (fun r2'=>r2=r2') (fun r2=>[(0,.v (.sl S43) x0),(3,vi s1),(32,vb r2)]) (fun r2=>[]) (fun r2' h3=>?_) (fun J2_0=>?_)
  ·subst h3
   refine run_if rfl rfl (fun h4=>?_) (fun h4=>?_)
   ·replace F1:=ift h4 F1
    refine sq rfl (rB [(2,vb false)] [] 5000 rfl c0 ?_)
    have e1:=inrI hr1 F1
    subst e1
    replace F0:=sumL F0
    obtain rfl:=inj F0
    exact ret_pure (q:=[vb false]) [.bool] rfl rfl (by kernel_rfl)
   ·replace F1:=ifn h4 F1
    refine sk rfl (eb (rB [(0,.v (.sl S43) x0),(3,vi (wrap .i64 (s1+1)))] [] 5000 rfl c0 ?_))
    exact ih1 _ (inj F1).symm
  obtain ⟨h5,F2⟩:=ifg F2
  obtain ⟨t1,h6,F2⟩:=obd F2
  rcases Bool.eq_false_or_eq_true (!t1) with h7|h7
  ·replace F2:=ift h7 F2
   refine rC [(0,.v (.sl S43) x0),(3,vi s1),(32,vb true)] [] [(4,⟨[.v S43],vb t1,none⟩)] [(6,true)] 5000 rfl (cc h5 (cc (W_congressref18_Right h6) (cc h7 c0))) ?_
   exact J2_0 _ (inj F2).symm
  ·replace F2:=ifn h7 F2
   rcases Bool.eq_false_or_eq_true (decide (s1>0)) with h8|h8
   ·replace F2:=ift h8 F2
    obtain ⟨h9,F2⟩:=ifg F2
    obtain ⟨h10,F2⟩:=ifg F2
    obtain ⟨t2,h11,F2⟩:=obd F2
    refine rC [(0,.v (.sl S43) x0),(3,vi s1),(32,vb (!t2))] [] [(4,⟨[.v S43],vb t1,none⟩),(19,⟨[.v S43,.v S43],vb t2,none⟩)] [(6,false),(9,true)] 5000 rfl (cc h5 (cc (W_congressref18_Right h6) (cc h7 (cc h8 (cc h9 (cc h10 (cc (W_congressref18_Less h11) c0))))))) ?_
    exact J2_0 _ (inj F2).symm
   ·replace F2:=ifn h8 F2
    refine rC [(0,.v (.sl S43) x0),(3,vi s1),(32,vb false)] [] [(4,⟨[.v S43],vb t1,none⟩)] [(6,false),(9,false)] 5000 rfl (cc h5 (cc (W_congressref18_Right h6) (cc h7 (cc h8 c0)))) ?_
    exact J2_0 _ (inj F2).symm
 ·replace F1:=ifn h2 F1
  refine run_exit rfl rfl (tm (ρ':=[]) (H':=[]) (by kernel_rfl) (by kernel_rfl) rfl ?_)
  exact J1_1 _ (inrI hr1 F1).symm
noncomputable def F_congressref09_Before (x0:S113.ty) (x1:S113.ty):Option Bool :=
 if (x0.1 != x1.1)=true then some (decide (x0.1<x1.1)) else if (x0.2.1 != x1.2.1)=true then some (decide (x0.2.1<x1.2.1)) else some (decide (x0.2.2<x1.2.2))
theorem W_congressref09_Before {x0:S113.ty} {x1:S113.ty} {y:Bool} (F0:F_congressref09_Before x0 x1=some y):Pure Tryz.prog 59 [.v S113 x0,.v S113 x1] (vb y):=by
 unfold F_congressref09_Before at F0
 refine pure_of_run @Tryz.call59 @Tryz.func59 rfl rfl fun w M ho=>?_
 refine sq rfl ?_
 refine sE (oE [2,3] [5000,5020] 5000 rfl (qE rfl (qE rfl (oE [2,3,9] [5000,5020] 5021 rfl (fA [(2,.ptr 5000 [] 0),(3,.ptr 5020 [] 0),(9,vb (x0.1 != x1.1))] [(5000,.var 113 S113 x0),(5020,.var 113 S113 x1)] c0 ?_)))))
 refine run_if rfl rfl (fun h1=>?_) (fun h1=>?_)
 ·replace F0:=ift h1 F0
  refine sq rfl (rB [(4,vb (decide (x0.1<x1.1)))] [] 5021 rfl c0 ?_)
  obtain rfl:=inj F0
  exact ret_pure (q:=[vb (decide (x0.1<x1.1))]) [.bool] rfl rfl (by kernel_rfl)
 ·replace F0:=ifn h1 F0
  refine sk rfl (sq rfl (sq rfl (rB [(2,.ptr 5000 [] 0),(3,.ptr 5020 [] 0),(19,vb (x0.2.1 != x1.2.1))] [(5000,.var 113 S113 x0),(5020,.var 113 S113 x1)] 5021 rfl c0 ?_)))
  refine run_if rfl rfl (fun h2=>?_) (fun h2=>?_)
  ·replace F0:=ift h2 F0
   refine sq rfl (rB [(4,vb (decide (x0.2.1<x1.2.1)))] [] 5021 rfl c0 ?_)
   obtain rfl:=inj F0
   exact ret_pure (q:=[vb (decide (x0.2.1<x1.2.1))]) [.bool] rfl rfl (by kernel_rfl)
  ·replace F0:=ifn h2 F0
   refine sk rfl (sq rfl (rB [(4,vb (decide (x0.2.2<x1.2.2)))] [] 5021 rfl c0 ?_))
   obtain rfl:=inj F0
   exact ret_pure (q:=[vb (decide (x0.2.2<x1.2.2))]) [.bool] rfl rfl (by kernel_rfl)
noncomputable def F_congressref22_May_b1 (x0:(List S115.ty)) (s1:Int):Option (Int⊕(Bool⊕Unit)) :=
 if (decide (s1<((length x0:Nat):Int)))=true then (show Option Bool from if 0≤s1∧s1<((length x0:Nat):Int) then (if (Sh.eqb S58 (getD x0 (toNat s1) S115.dflt).2 (0,0,0,0,0,[]))=true then some true else if (decide (s1>0))=true then if 0≤(wrap .i64 (s1-1))∧(wrap .i64 (s1-1))<((length x0:Nat):Int) then (if 0≤s1∧s1<((length x0:Nat):Int) then (F_congressref09_Before (getD x0 (toNat (wrap .i64 (s1-1))) S115.dflt).1 (getD x0 (toNat s1) S115.dflt).1).bind fun t1=>(some (!t1)) else none) else none else some false) else none).bind (fun r2=>if (r2)=true then some (Sum.inr (Sum.inl false)) else some (Sum.inl (wrap .i64 (s1+1)))) else some (Sum.inr (Sum.inr ()))
noncomputable def F_congressref22_May (x0:(List S115.ty)):Option Bool :=
 (loopO (F_congressref22_May_b1 x0) 0).bind (Sum.elim some (fun j11=>some true))
theorem W_congressref22_May {x0:(List S115.ty)} {y:Bool} (F0:F_congressref22_May x0=some y):Pure Tryz.prog 29 [.v (.sl S115) x0] (vb y):=by
 unfold F_congressref22_May at F0
 refine pure_of_run @Tryz.call29 @Tryz.func29 rfl rfl fun w M ho=>?_
 obtain ⟨r1,hl1,F0⟩:=obd F0
 refine sq rfl ?_
 refine sE (oE [0] [] 5000 rfl (qE rfl (qE rfl (oE [0,3] [] 5000 rfl (fA [(0,.v (.sl S115) x0),(3,vi 0)] [] c0 (bk rfl ?_))))))
 refine run_cutx 0 rfl (fun j11=>r1=Sum.inr j11) (fun j11=>[]) (fun j11=>[]) (fun j11 h1=>?_) (fun J1_1=>?_)
 ·subst h1
  replace F0:=sumR F0
  refine sq rfl (rB [(2,vb true)] [] 5000 rfl c0 ?_)
  obtain rfl:=inj F0
  exact ret_pure (q:=[vb true]) [.bool] rfl rfl (by kernel_rfl)
 refine run_loop rfl (run_loopO hl1 (fun s1=>[(0,.v (.sl S115) x0),(3,vi s1)]) (fun s1=>[]) rfl rfl (fun s1 o1 F1 ih1 hr1=>?_))
 unfold F_congressref22_May_b1 at F1
 refine run_again (sq rfl (sq rfl (rB [(0,.v (.sl S115) x0),(3,vi s1),(7,vb (decide (s1<((length x0:Nat):Int))))] [] 5000 rfl c0 ?_)))
 refine run_if rfl rfl (fun h2=>?_) (fun h2=>?_)
 ·replace F1:=ift h2 F1
  obtain ⟨r2,F2,F1⟩:=obd F1
  refine sk rfl (sq rfl (bk rfl (sq rfl ?_)))
  refine run_cut (fun r2'=>r2=r2') (fun r2=>[(0,.v (.sl S115) x0),(3,vi s1),(35,vb r2)]) (fun r2=>[]) (fun r2' h3=>?_) (fun J2_0=>?_)
  ·subst h3
   refine run_if rfl rfl (fun h4=>?_) (fun h4=>?_)
   ·replace F1:=ift h4 F1
    refine sq rfl (rB [(2,vb false)] [] 5000 rfl c0 ?_)
    have e1:=inrI hr1 F1
    subst e1
    replace F0:=sumL F0
    obtain rfl:=inj F0
    exact ret_pure (q:=[vb false]) [.bool] rfl rfl (by kernel_rfl)
   ·replace F1:=ifn h4 F1
    refine sk rfl (eb (rB [(0,.v (.sl S115) x0),(3,vi (wrap .i64 (s1+1)))] [] 5000 rfl c0 ?_))
    exact ih1 _ (inj F1).symm
  obtain ⟨h5,F2⟩:=ifg F2
  rcases Bool.eq_false_or_eq_true (Sh.eqb S58 (getD x0 (toNat s1) S115.dflt).2 (0,0,0,0,0,[])) with h6|h6
  ·replace F2:=ift h6 F2
   refine rC [(0,.v (.sl S115) x0),(3,vi s1),(35,vb true)] [] [] [(7,true)] 5000 rfl (cc h5 (cc h6 c0)) ?_
   exact J2_0 _ (inj F2).symm
  ·replace F2:=ifn h6 F2
   rcases Bool.eq_false_or_eq_true (decide (s1>0)) with h7|h7
   ·replace F2:=ift h7 F2
    obtain ⟨h8,F2⟩:=ifg F2
    obtain ⟨h9,F2⟩:=ifg F2
    obtain ⟨t1,h10,F2⟩:=obd F2
    refine rC [(0,.v (.sl S115) x0),(3,vi s1),(35,vb (!t1))] [] [(22,⟨[.v S113,.v S113],vb t1,none⟩)] [(7,false),(10,true)] 5000 rfl (cc h5 (cc h6 (cc h7 (cc h8 (cc h9 (cc (W_congressref09_Before h10) c0)))))) ?_
    exact J2_0 _ (inj F2).symm
   ·replace F2:=ifn h7 F2
    refine rC [(0,.v (.sl S115) x0),(3,vi s1),(35,vb false)] [] [] [(7,false),(10,false)] 5000 rfl (cc h5 (cc h6 (cc h7 c0))) ?_
    exact J2_0 _ (inj F2).symm
 ·replace F1:=ifn h2 F1
  refine run_exit rfl rfl (tm (ρ':=[]) (H':=[]) (by kernel_rfl) (by kernel_rfl) rfl ?_)
  exact J1_1 _ (inrI hr1 F1).symm
noncomputable def F_congressref23_May (x0:S38.ty):Option Bool :=
 (show Option Bool from if (decide (x0.1≥0))=true then if (decide (x0.1≤2))=true then if (decide (x0.2.1≥0))=true then if (decide (x0.2.1≤7))=true then if (decide (x0.2.2.2.1≥0))=true then (F_congressref17_May x0.2.2.2.2.1).bind fun t1=>(if (t1)=true then (F_congressref16_May x0.2.2.2.2.2.1).bind fun t2=>(if (t2)=true then (F_congressref18_May x0.2.2.2.2.2.2.1).bind fun t3=>(if (t3)=true then (F_congressref18_May x0.2.2.2.2.2.2.2.2.2.2.1).bind fun t4=>(if (t4)=true then (F_congressref22_May x0.2.2.2.2.2.2.2.2.2.2.2.1).bind fun t5=>(if (t5)=true then some (decide (((length x0.2.2.2.2.2.2.2.2.1:Nat):Int)≤8)) else some false) else some false) else some false) else some false) else some false) else some false else some false else some false else some false else some false).bind (fun r1=>(show Option Bool from if (r1)=true then if (decide (((length x0.2.2.2.2.2.2.2.2.2.2.2.1:Nat):Int)≤200))=true then if (decide (((length x0.2.2.2.2.2.2.2.1:Nat):Int)≤200))=true then some (decide (((length x0.2.2.2.2.2.2.2.2.2.2.1:Nat):Int)≤300)) else some false else some false else some false).bind (fun r2=>some r2))
theorem W_congressref23_May {x0:S38.ty} {y:Bool} (F0:F_congressref23_May x0=some y):Pure Tryz.prog 8 [.v S38 x0] (vb y):=by
 unfold F_congressref23_May at F0
 refine pure_of_run @Tryz.call8 @Tryz.func8 rfl rfl fun w M ho=>?_
 obtain ⟨r1,F1,F0⟩:=obd F0
 refine sq rfl (rB [(1,.ptr 5000 [] 0)] [(5000,.var 38 S38 x0)] 5000 rfl c0 (sq rfl ?_))
 refine run_cut (fun r1'=>r1=r1') (fun r1=>[(1,.ptr 5000 [] 0),(3,vb r1)]) (fun r1=>[(5000,.var 38 S38 x0)]) (fun r1' h1=>?_) (fun J1_0=>?_)
 ·subst h1
  obtain ⟨r2,F1,F0⟩:=obd F0
  refine sq rfl ?_
  refine run_cut (fun r2'=>r2=r2') (fun r2=>[(2,vb r2)]) (fun r2=>[]) (fun r2' h2=>?_) (fun J2_0=>?_)
  ·subst h2
   obtain rfl:=inj F0
   exact ret_pure (q:=[vb r2]) [.bool] rfl rfl (by kernel_rfl)
  rcases Bool.eq_false_or_eq_true (r1) with h3|h3
  ·replace F1:=ift h3 F1
   rcases Bool.eq_false_or_eq_true (decide (((length x0.2.2.2.2.2.2.2.2.2.2.2.1:Nat):Int)≤200)) with h4|h4
   ·replace F1:=ift h4 F1
    rcases Bool.eq_false_or_eq_true (decide (((length x0.2.2.2.2.2.2.2.1:Nat):Int)≤200)) with h5|h5
    ·replace F1:=ift h5 F1
     refine rA [(2,vb (decide (((length x0.2.2.2.2.2.2.2.2.2.2.1:Nat):Int)≤300)))] [] [] [(1,true),(7,true),(13,true)] 5001 rfl (cc h3 (cc h4 (cc h5 c0))) ?_
     exact J2_0 _ (inj F1).symm
    ·replace F1:=ifn h5 F1
     refine rA [(2,vb false)] [] [] [(1,true),(7,true),(13,false)] 5001 rfl (cc h3 (cc h4 (cc h5 c0))) ?_
     exact J2_0 _ (inj F1).symm
   ·replace F1:=ifn h4 F1
    refine rA [(2,vb false)] [] [] [(1,true),(7,false)] 5001 rfl (cc h3 (cc h4 c0)) ?_
    exact J2_0 _ (inj F1).symm
  ·replace F1:=ifn h3 F1
   refine rA [(2,vb false)] [] [] [(1,false)] 5001 rfl (cc h3 c0) ?_
   exact J2_0 _ (inj F1).symm
 rcases Bool.eq_false_or_eq_true (decide (x0.1≥0)) with h6|h6
 ·replace F1:=ift h6 F1
  rcases Bool.eq_false_or_eq_true (decide (x0.1≤2)) with h7|h7
  ·replace F1:=ift h7 F1
   rcases Bool.eq_false_or_eq_true (decide (x0.2.1≥0)) with h8|h8
   ·replace F1:=ift h8 F1
    rcases Bool.eq_false_or_eq_true (decide (x0.2.1≤7)) with h9|h9
    ·replace F1:=ift h9 F1
     rcases Bool.eq_false_or_eq_true (decide (x0.2.2.2.1≥0)) with h10|h10
     ·replace F1:=ift h10 F1
      obtain ⟨t1,h11,F1⟩:=obd F1
      rcases Bool.eq_false_or_eq_true (t1) with h12|h12
      ·replace F1:=ift h12 F1
       obtain ⟨t2,h13,F1⟩:=obd F1
       rcases Bool.eq_false_or_eq_true (t2) with h14|h14
       ·replace F1:=ift h14 F1
        obtain ⟨t3,h15,F1⟩:=obd F1
        rcases Bool.eq_false_or_eq_true (t3) with h16|h16
        ·replace F1:=ift h16 F1
         obtain ⟨t4,h17,F1⟩:=obd F1
         rcases Bool.eq_false_or_eq_true (t4) with h18|h18
         ·replace F1:=ift h18 F1
          obtain ⟨t5,h19,F1⟩:=obd F1
          rcases Bool.eq_false_or_eq_true (t5) with h20|h20
          ·replace F1:=ift h20 F1
           refine rA [(1,.ptr 5000 [] 0),(3,vb (decide (((length x0.2.2.2.2.2.2.2.2.1:Nat):Int)≤8)))] [(5000,.var 38 S38 x0)] [(26,⟨[.v S26],vb t1,none⟩),(31,⟨[.v (.sl S56)],vb t2,none⟩),(36,⟨[.v (.sl S43)],vb t3,none⟩),(41,⟨[.v (.sl S43)],vb t4,none⟩),(46,⟨[.v (.sl S115)],vb t5,none⟩)] [(3,true),(8,true),(13,true),(18,true),(23,true),(28,true),(33,true),(38,true),(43,true),(48,true)] 5001 rfl (cc h6 (cc h7 (cc h8 (cc h9 (cc h10 (cc (W_congressref17_May h11) (cc h12 (cc (W_congressref16_May h13) (cc h14 (cc (W_congressref18_May h15) (cc h16 (cc (W_congressref18_May h17) (cc h18 (cc (W_congressref22_May h19) (cc h20 c0))))))))))))))) ?_
           exact J1_0 _ (inj F1).symm
          ·replace F1:=ifn h20 F1
           refine rA [(1,.ptr 5000 [] 0),(3,vb false)] [(5000,.var 38 S38 x0)] [(26,⟨[.v S26],vb t1,none⟩),(31,⟨[.v (.sl S56)],vb t2,none⟩),(36,⟨[.v (.sl S43)],vb t3,none⟩),(41,⟨[.v (.sl S43)],vb t4,none⟩),(46,⟨[.v (.sl S115)],vb t5,none⟩)] [(3,true),(8,true),(13,true),(18,true),(23,true),(28,true),(33,true),(38,true),(43,true),(48,false)] 5001 rfl (cc h6 (cc h7 (cc h8 (cc h9 (cc h10 (cc (W_congressref17_May h11) (cc h12 (cc (W_congressref16_May h13) (cc h14 (cc (W_congressref18_May h15) (cc h16 (cc (W_congressref18_May h17) (cc h18 (cc (W_congressref22_May h19) (cc h20 c0))))))))))))))) ?_
           exact J1_0 _ (inj F1).symm
         ·replace F1:=ifn h18 F1
          refine rA [(1,.ptr 5000 [] 0),(3,vb false)] [(5000,.var 38 S38 x0)] [(26,⟨[.v S26],vb t1,none⟩),(31,⟨[.v (.sl S56)],vb t2,none⟩),(36,⟨[.v (.sl S43)],vb t3,none⟩),(41,⟨[.v (.sl S43)],vb t4,none⟩)] [(3,true),(8,true),(13,true),(18,true),(23,true),(28,true),(33,true),(38,true),(43,false)] 5001 rfl (cc h6 (cc h7 (cc h8 (cc h9 (cc h10 (cc (W_congressref17_May h11) (cc h12 (cc (W_congressref16_May h13) (cc h14 (cc (W_congressref18_May h15) (cc h16 (cc (W_congressref18_May h17) (cc h18 c0))))))))))))) ?_
          exact J1_0 _ (inj F1).symm
        ·replace F1:=ifn h16 F1
         refine rA [(1,.ptr 5000 [] 0),(3,vb false)] [(5000,.var 38 S38 x0)] [(26,⟨[.v S26],vb t1,none⟩),(31,⟨[.v (.sl S56)],vb t2,none⟩),(36,⟨[.v (.sl S43)],vb t3,none⟩)] [(3,true),(8,true),(13,true),(18,true),(23,true),(28,true),(33,true),(38,false)] 5001 rfl (cc h6 (cc h7 (cc h8 (cc h9 (cc h10 (cc (W_congressref17_May h11) (cc h12 (cc (W_congressref16_May h13) (cc h14 (cc (W_congressref18_May h15) (cc h16 c0))))))))))) ?_
         exact J1_0 _ (inj F1).symm
       ·replace F1:=ifn h14 F1
        refine rA [(1,.ptr 5000 [] 0),(3,vb false)] [(5000,.var 38 S38 x0)] [(26,⟨[.v S26],vb t1,none⟩),(31,⟨[.v (.sl S56)],vb t2,none⟩)] [(3,true),(8,true),(13,true),(18,true),(23,true),(28,true),(33,false)] 5001 rfl (cc h6 (cc h7 (cc h8 (cc h9 (cc h10 (cc (W_congressref17_May h11) (cc h12 (cc (W_congressref16_May h13) (cc h14 c0))))))))) ?_
        exact J1_0 _ (inj F1).symm
      ·replace F1:=ifn h12 F1
       refine rA [(1,.ptr 5000 [] 0),(3,vb false)] [(5000,.var 38 S38 x0)] [(26,⟨[.v S26],vb t1,none⟩)] [(3,true),(8,true),(13,true),(18,true),(23,true),(28,false)] 5001 rfl (cc h6 (cc h7 (cc h8 (cc h9 (cc h10 (cc (W_congressref17_May h11) (cc h12 c0))))))) ?_
       exact J1_0 _ (inj F1).symm
     ·replace F1:=ifn h10 F1
      refine rA [(1,.ptr 5000 [] 0),(3,vb false)] [(5000,.var 38 S38 x0)] [] [(3,true),(8,true),(13,true),(18,true),(23,false)] 5001 rfl (cc h6 (cc h7 (cc h8 (cc h9 (cc h10 c0))))) ?_
      exact J1_0 _ (inj F1).symm
    ·replace F1:=ifn h9 F1
     refine rA [(1,.ptr 5000 [] 0),(3,vb false)] [(5000,.var 38 S38 x0)] [] [(3,true),(8,true),(13,true),(18,false)] 5001 rfl (cc h6 (cc h7 (cc h8 (cc h9 c0)))) ?_
     exact J1_0 _ (inj F1).symm
   ·replace F1:=ifn h8 F1
    refine rA [(1,.ptr 5000 [] 0),(3,vb false)] [(5000,.var 38 S38 x0)] [] [(3,true),(8,true),(13,false)] 5001 rfl (cc h6 (cc h7 (cc h8 c0))) ?_
    exact J1_0 _ (inj F1).symm
  ·replace F1:=ifn h7 F1
   refine rA [(1,.ptr 5000 [] 0),(3,vb false)] [(5000,.var 38 S38 x0)] [] [(3,true),(8,false)] 5001 rfl (cc h6 (cc h7 c0)) ?_
   exact J1_0 _ (inj F1).symm
 ·replace F1:=ifn h6 F1
  refine rA [(1,.ptr 5000 [] 0),(3,vb false)] [(5000,.var 38 S38 x0)] [] [(3,false)] 5001 rfl (cc h6 c0) ?_
  exact J1_0 _ (inj F1).symm
noncomputable def F_congressref20_Same_b1 (x0:(List S53.ty)) (x1:(List S53.ty)) (s1:Int):Option (Int⊕(Bool⊕Unit)) :=
 if (decide (s1<((length x0:Nat):Int)))=true then if 0≤s1∧s1<((length x0:Nat):Int) then (if 0≤s1∧s1<((length x1:Nat):Int) then (if (!(Sh.eqb S53 (getD x0 (toNat s1) S53.dflt) (getD x1 (toNat s1) S53.dflt)))=true then some (Sum.inr (Sum.inl false)) else some (Sum.inl (wrap .i64 (s1+1)))) else none) else none else some (Sum.inr (Sum.inr ()))
noncomputable def F_congressref20_Same (x0:(List S53.ty)) (x1:(List S53.ty)):Option Bool :=
 if (((length x0:Nat):Int) != ((length x1:Nat):Int))=true then some false else (loopO (F_congressref20_Same_b1 x0 x1) 0).bind (Sum.elim some (fun j11=>some true))
theorem W_congressref20_Same {x0:(List S53.ty)} {x1:(List S53.ty)} {y:Bool} (F0:F_congressref20_Same x0 x1=some y):Pure Tryz.prog 14 [.v (.sl S53) x0,.v (.sl S53) x1] (vb y):=by
 unfold F_congressref20_Same at F0
 refine pure_of_run @Tryz.call14 @Tryz.func14 rfl rfl fun w M ho=>?_
 refine sq rfl ?_
 refine sE (oE [0,1] [] 5000 rfl (qE rfl (qE rfl (oE [0,1,10] [] 5000 rfl (fA [(0,.v (.sl S53) x0),(1,.v (.sl S53) x1),(10,vb (((length x0:Nat):Int) != ((length x1:Nat):Int)))] [] c0 ?_)))))
 refine run_if rfl rfl (fun h1=>?_) (fun h1=>?_)
 ·replace F0:=ift h1 F0
  refine sq rfl (rB [(4,vb false)] [] 5000 rfl c0 ?_)
  obtain rfl:=inj F0
  exact ret_pure (q:=[vb false]) [.bool] rfl rfl (by kernel_rfl)
 ·replace F0:=ifn h1 F0
  obtain ⟨r1,hl1,F0⟩:=obd F0
  refine sk rfl (sq rfl (sq rfl (rB [(0,.v (.sl S53) x0),(1,.v (.sl S53) x1),(5,vi 0)] [] 5000 rfl c0 (bk rfl ?_))))
  refine run_cutx 0 rfl (fun j11=>r1=Sum.inr j11) (fun j11=>[]) (fun j11=>[]) (fun j11 h2=>?_) (fun J1_1=>?_)
  ·subst h2
   replace F0:=sumR F0
   refine sq rfl (rB [(4,vb true)] [] 5000 rfl c0 ?_)
   obtain rfl:=inj F0
   exact ret_pure (q:=[vb true]) [.bool] rfl rfl (by kernel_rfl)
  refine run_loop rfl (run_loopO hl1 (fun s1=>[(0,.v (.sl S53) x0),(1,.v (.sl S53) x1),(5,vi s1)]) (fun s1=>[]) rfl rfl (fun s1 o1 F1 ih1 hr1=>?_))
  unfold F_congressref20_Same_b1 at F1
  refine run_again (sq rfl (sq rfl (rB [(0,.v (.sl S53) x0),(1,.v (.sl S53) x1),(5,vi s1),(14,vb (decide (s1<((length x0:Nat):Int))))] [] 5000 rfl c0 ?_)))
  refine run_if rfl rfl (fun h3=>?_) (fun h3=>?_)
  ·replace F1:=ift h3 F1
   obtain ⟨h4,F1⟩:=ifg F1
   obtain ⟨h5,F1⟩:=ifg F1
   refine sk rfl (sq rfl (bk rfl (sq rfl (rC [(0,.v (.sl S53) x0),(1,.v (.sl S53) x1),(5,vi s1),(25,vb (!(Sh.eqb S53 (getD x0 (toNat s1) S53.dflt) (getD x1 (toNat s1) S53.dflt))))] [] [] [] 5000 rfl (cc h4 (cc h5 c0)) ?_))))
   refine run_if rfl rfl (fun h6=>?_) (fun h6=>?_)
   ·replace F1:=ift h6 F1
    refine sq rfl (rB [(4,vb false)] [] 5000 rfl c0 ?_)
    have e1:=inrI hr1 F1
    subst e1
    replace F0:=sumL F0
    obtain rfl:=inj F0
    exact ret_pure (q:=[vb false]) [.bool] rfl rfl (by kernel_rfl)
   ·replace F1:=ifn h6 F1
    refine sk rfl (eb (rB [(0,.v (.sl S53) x0),(1,.v (.sl S53) x1),(5,vi (wrap .i64 (s1+1)))] [] 5000 rfl c0 ?_))
    exact ih1 _ (inj F1).symm
  ·replace F1:=ifn h3 F1
   refine run_exit rfl rfl (tm (ρ':=[]) (H':=[]) (by kernel_rfl) (by kernel_rfl) rfl ?_)
   exact J1_1 _ (inrI hr1 F1).symm
noncomputable def F_congressref19_Same_b1 (x0:(List Int)) (x1:(List Int)) (s1:Int):Option (Int⊕(Bool⊕Unit)) :=
 if (decide (s1<((length x0:Nat):Int)))=true then if 0≤s1∧s1<((length x0:Nat):Int) then (if 0≤s1∧s1<((length x1:Nat):Int) then (if ((getD x0 (toNat s1) 0) != (getD x1 (toNat s1) 0))=true then some (Sum.inr (Sum.inl false)) else some (Sum.inl (wrap .i64 (s1+1)))) else none) else none else some (Sum.inr (Sum.inr ()))
noncomputable def F_congressref19_Same (x0:(List Int)) (x1:(List Int)):Option Bool :=
 if (((length x0:Nat):Int) != ((length x1:Nat):Int))=true then some false else (loopO (F_congressref19_Same_b1 x0 x1) 0).bind (Sum.elim some (fun j11=>some true))
theorem W_congressref19_Same {x0:(List Int)} {x1:(List Int)} {y:Bool} (F0:F_congressref19_Same x0 x1=some y):Pure Tryz.prog 36 [.v (.sl (.int .u64)) x0,.v (.sl (.int .u64)) x1] (vb y):=by
 unfold F_congressref19_Same at F0
 refine pure_of_run @Tryz.call36 @Tryz.func36 rfl rfl fun w M ho=>?_
 refine sq rfl ?_
 refine sE (oE [0,1] [] 5000 rfl (qE rfl (qE rfl (oE [0,1,10] [] 5000 rfl (fA [(0,.v (.sl (.int .u64)) x0),(1,.v (.sl (.int .u64)) x1),(10,vb (((length x0:Nat):Int) != ((length x1:Nat):Int)))] [] c0 ?_)))))
 refine run_if rfl rfl (fun h1=>?_) (fun h1=>?_)
 ·replace F0:=ift h1 F0
  refine sq rfl (rB [(4,vb false)] [] 5000 rfl c0 ?_)
  obtain rfl:=inj F0
  exact ret_pure (q:=[vb false]) [.bool] rfl rfl (by kernel_rfl)
 ·replace F0:=ifn h1 F0
  obtain ⟨r1,hl1,F0⟩:=obd F0
  refine sk rfl (sq rfl (sq rfl (rB [(0,.v (.sl (.int .u64)) x0),(1,.v (.sl (.int .u64)) x1),(5,vi 0)] [] 5000 rfl c0 (bk rfl ?_))))
  refine run_cutx 0 rfl (fun j11=>r1=Sum.inr j11) (fun j11=>[]) (fun j11=>[]) (fun j11 h2=>?_) (fun J1_1=>?_)
  ·subst h2
   replace F0:=sumR F0
   refine sq rfl (rB [(4,vb true)] [] 5000 rfl c0 ?_)
   obtain rfl:=inj F0
   exact ret_pure (q:=[vb true]) [.bool] rfl rfl (by kernel_rfl)
  refine run_loop rfl (run_loopO hl1 (fun s1=>[(0,.v (.sl (.int .u64)) x0),(1,.v (.sl (.int .u64)) x1),(5,vi s1)]) (fun s1=>[]) rfl rfl (fun s1 o1 F1 ih1 hr1=>?_))
  unfold F_congressref19_Same_b1 at F1
  refine run_again (sq rfl (sq rfl (rB [(0,.v (.sl (.int .u64)) x0),(1,.v (.sl (.int .u64)) x1),(5,vi s1),(14,vb (decide (s1<((length x0:Nat):Int))))] [] 5000 rfl c0 ?_)))
  refine run_if rfl rfl (fun h3=>?_) (fun h3=>?_)
  ·replace F1:=ift h3 F1
   obtain ⟨h4,F1⟩:=ifg F1
   obtain ⟨h5,F1⟩:=ifg F1
   refine sk rfl (sq rfl (bk rfl (sq rfl (rC [(0,.v (.sl (.int .u64)) x0),(1,.v (.sl (.int .u64)) x1),(5,vi s1),(25,vb ((getD x0 (toNat s1) 0) != (getD x1 (toNat s1) 0)))] [] [] [] 5000 rfl (cc h4 (cc h5 c0)) ?_))))
   refine run_if rfl rfl (fun h6=>?_) (fun h6=>?_)
   ·replace F1:=ift h6 F1
    refine sq rfl (rB [(4,vb false)] [] 5000 rfl c0 ?_)
    have e1:=inrI hr1 F1
    subst e1
    replace F0:=sumL F0
    obtain rfl:=inj F0
    exact ret_pure (q:=[vb false]) [.bool] rfl rfl (by kernel_rfl)
   ·replace F1:=ifn h6 F1
    refine sk rfl (eb (rB [(0,.v (.sl (.int .u64)) x0),(1,.v (.sl (.int .u64)) x1),(5,vi (wrap .i64 (s1+1)))] [] 5000 rfl c0 ?_))
    exact ih1 _ (inj F1).symm
  ·replace F1:=ifn h3 F1
   refine run_exit rfl rfl (tm (ρ':=[]) (H':=[]) (by kernel_rfl) (by kernel_rfl) rfl ?_)
   exact J1_1 _ (inrI hr1 F1).symm
noncomputable def F_congressref17_Is_b2 (x0:S26.ty) (x1:S26.ty) (s2:Int):Option (Int⊕(Bool⊕Unit)) :=
 if (decide (s2<((length x0.2:Nat):Int)))=true then if 0≤s2∧s2<((length x0.2:Nat):Int) then (if 0≤s2∧s2<((length x1.2:Nat):Int) then (if (!(Sh.eqb S120 (getD x0.2 (toNat s2) S120.dflt) (getD x1.2 (toNat s2) S120.dflt)))=true then some (Sum.inr (Sum.inl false)) else some (Sum.inl (wrap .i64 (s2+1)))) else none) else none else some (Sum.inr (Sum.inr ()))
noncomputable def F_congressref17_Is (x0:S26.ty) (x1:S26.ty):Option Bool :=
 (show Option Bool from if (x0.1 != x1.1)=true then some true else some (((length x0.2:Nat):Int) != ((length x1.2:Nat):Int))).bind (fun r1=>if (r1)=true then some false else (loopO (F_congressref17_Is_b2 x0 x1) 0).bind (Sum.elim some (fun j21=>some true)))
theorem W_congressref17_Is {x0:S26.ty} {x1:S26.ty} {y:Bool} (F0:F_congressref17_Is x0 x1=some y):Pure Tryz.prog 37 [.v S26 x0,.v S26 x1] (vb y):=by
 unfold F_congressref17_Is at F0
 refine pure_of_run @Tryz.call37 @Tryz.func37 rfl rfl fun w M ho=>?_
 obtain ⟨r1,F1,F0⟩:=obd F0
 refine sq rfl (rB [(2,.ptr 5000 [] 0),(3,.ptr 5020 [] 0)] [(5000,.var 26 S26 x0),(5020,.var 26 S26 x1)] 5000 rfl c0 (sq rfl (sq rfl ?_)))
 refine run_cut (fun r1'=>r1=r1') (fun r1=>[(2,.ptr 5000 [] 0),(3,.ptr 5020 [] 0),(19,vb r1)]) (fun r1=>[(5000,.var 26 S26 x0),(5020,.var 26 S26 x1)]) (fun r1' h1=>?_) (fun J1_0=>?_)
 ·subst h1
  refine run_if rfl rfl (fun h2=>?_) (fun h2=>?_)
  ·replace F0:=ift h2 F0
   refine sq rfl (rB [(4,vb false)] [] 5021 rfl c0 ?_)
   obtain rfl:=inj F0
   exact ret_pure (q:=[vb false]) [.bool] rfl rfl (by kernel_rfl)
  ·replace F0:=ifn h2 F0
   obtain ⟨r2,hl2,F0⟩:=obd F0
   refine sk rfl (sq rfl (sq rfl (rB [(2,.ptr 5000 [] 0),(3,.ptr 5020 [] 0),(5,vi 0)] [(5000,.var 26 S26 x0),(5020,.var 26 S26 x1)] 5021 rfl c0 (bk rfl ?_))))
   refine run_cutx 0 rfl (fun j21=>r2=Sum.inr j21) (fun j21=>[]) (fun j21=>[]) (fun j21 h3=>?_) (fun J2_1=>?_)
   ·subst h3
    replace F0:=sumR F0
    refine sq rfl (rB [(4,vb true)] [] 5000 rfl c0 ?_)
    obtain rfl:=inj F0
    exact ret_pure (q:=[vb true]) [.bool] rfl rfl (by kernel_rfl)
   refine run_loop rfl (run_loopO hl2 (fun s2=>[(2,.ptr 5000 [] 0),(3,.ptr 5020 [] 0),(5,vi s2)]) (fun s2=>[(5000,.var 26 S26 x0),(5020,.var 26 S26 x1)]) rfl rfl (fun s2 o2 F1 ih2 hr2=>?_))
   unfold F_congressref17_Is_b2 at F1
   refine run_again (sq rfl (sq rfl (rB [(2,.ptr 5000 [] 0),(3,.ptr 5020 [] 0),(5,vi s2),(24,vb (decide (s2<((length x0.2:Nat):Int))))] [(5000,.var 26 S26 x0),(5020,.var 26 S26 x1)] 5021 rfl c0 ?_)))
   refine run_if rfl rfl (fun h4=>?_) (fun h4=>?_)
   ·replace F1:=ift h4 F1
    obtain ⟨h5,F1⟩:=ifg F1
    obtain ⟨h6,F1⟩:=ifg F1
    refine sk rfl (sq rfl (bk rfl (sq rfl (rC [(2,.ptr 5000 [] 0),(3,.ptr 5020 [] 0),(5,vi s2),(37,vb (!(Sh.eqb S120 (getD x0.2 (toNat s2) S120.dflt) (getD x1.2 (toNat s2) S120.dflt))))] [(5000,.var 26 S26 x0),(5020,.var 26 S26 x1)] [] [] 5021 rfl (cc h5 (cc h6 c0)) ?_))))
    refine run_if rfl rfl (fun h7=>?_) (fun h7=>?_)
    ·replace F1:=ift h7 F1
     refine sq rfl (rB [(4,vb false)] [] 5021 rfl c0 ?_)
     have e2:=inrI hr2 F1
     subst e2
     replace F0:=sumL F0
     obtain rfl:=inj F0
     exact ret_pure (q:=[vb false]) [.bool] rfl rfl (by kernel_rfl)
    ·replace F1:=ifn h7 F1
     refine sk rfl (eb (rB [(2,.ptr 5000 [] 0),(3,.ptr 5020 [] 0),(5,vi (wrap .i64 (s2+1)))] [(5000,.var 26 S26 x0),(5020,.var 26 S26 x1)] 5021 rfl c0 ?_))
     exact ih2 _ (inj F1).symm
   ·replace F1:=ifn h4 F1
    refine run_exit rfl rfl (tm (ρ':=[]) (H':=[]) (by kernel_rfl) (by kernel_rfl) rfl ?_)
    exact J2_1 _ (inrI hr2 F1).symm
 rcases Bool.eq_false_or_eq_true (x0.1 != x1.1) with h8|h8
 ·replace F1:=ift h8 F1
  refine rA [(2,.ptr 5000 [] 0),(3,.ptr 5020 [] 0),(19,vb true)] [(5000,.var 26 S26 x0),(5020,.var 26 S26 x1)] [] [(5,true)] 5021 rfl (cc h8 c0) ?_
  exact J1_0 _ (inj F1).symm
 ·replace F1:=ifn h8 F1
  refine rA [(2,.ptr 5000 [] 0),(3,.ptr 5020 [] 0),(19,vb (((length x0.2:Nat):Int) != ((length x1.2:Nat):Int)))] [(5000,.var 26 S26 x0),(5020,.var 26 S26 x1)] [] [(5,false)] 5021 rfl (cc h8 c0) ?_
  exact J1_0 _ (inj F1).symm
noncomputable def F_congressref16_Same_b1 (x0:(List S56.ty)) (x1:(List S56.ty)) (s1:Int):Option (Int⊕(Bool⊕Unit)) :=
 if (decide (s1<((length x0:Nat):Int)))=true then if 0≤s1∧s1<((length x0:Nat):Int) then (if 0≤s1∧s1<((length x1:Nat):Int) then (if (!(Sh.eqb S56 (getD x0 (toNat s1) S56.dflt) (getD x1 (toNat s1) S56.dflt)))=true then some (Sum.inr (Sum.inl false)) else some (Sum.inl (wrap .i64 (s1+1)))) else none) else none else some (Sum.inr (Sum.inr ()))
noncomputable def F_congressref16_Same (x0:(List S56.ty)) (x1:(List S56.ty)):Option Bool :=
 if (((length x0:Nat):Int) != ((length x1:Nat):Int))=true then some false else (loopO (F_congressref16_Same_b1 x0 x1) 0).bind (Sum.elim some (fun j11=>some true))
theorem W_congressref16_Same {x0:(List S56.ty)} {x1:(List S56.ty)} {y:Bool} (F0:F_congressref16_Same x0 x1=some y):Pure Tryz.prog 38 [.v (.sl S56) x0,.v (.sl S56) x1] (vb y):=by
 unfold F_congressref16_Same at F0
 refine pure_of_run @Tryz.call38 @Tryz.func38 rfl rfl fun w M ho=>?_
 refine sq rfl ?_
 refine sE (oE [0,1] [] 5000 rfl (qE rfl (qE rfl (oE [0,1,10] [] 5000 rfl (fA [(0,.v (.sl S56) x0),(1,.v (.sl S56) x1),(10,vb (((length x0:Nat):Int) != ((length x1:Nat):Int)))] [] c0 ?_)))))
 refine run_if rfl rfl (fun h1=>?_) (fun h1=>?_)
 ·replace F0:=ift h1 F0
  refine sq rfl (rB [(4,vb false)] [] 5000 rfl c0 ?_)
  obtain rfl:=inj F0
  exact ret_pure (q:=[vb false]) [.bool] rfl rfl (by kernel_rfl)
 ·replace F0:=ifn h1 F0
  obtain ⟨r1,hl1,F0⟩:=obd F0
  refine sk rfl (sq rfl (sq rfl (rB [(0,.v (.sl S56) x0),(1,.v (.sl S56) x1),(5,vi 0)] [] 5000 rfl c0 (bk rfl ?_))))
  refine run_cutx 0 rfl (fun j11=>r1=Sum.inr j11) (fun j11=>[]) (fun j11=>[]) (fun j11 h2=>?_) (fun J1_1=>?_)
  ·subst h2
   replace F0:=sumR F0
   refine sq rfl (rB [(4,vb true)] [] 5000 rfl c0 ?_)
   obtain rfl:=inj F0
   exact ret_pure (q:=[vb true]) [.bool] rfl rfl (by kernel_rfl)
  refine run_loop rfl (run_loopO hl1 (fun s1=>[(0,.v (.sl S56) x0),(1,.v (.sl S56) x1),(5,vi s1)]) (fun s1=>[]) rfl rfl (fun s1 o1 F1 ih1 hr1=>?_))
  unfold F_congressref16_Same_b1 at F1
  refine run_again (sq rfl (sq rfl (rB [(0,.v (.sl S56) x0),(1,.v (.sl S56) x1),(5,vi s1),(14,vb (decide (s1<((length x0:Nat):Int))))] [] 5000 rfl c0 ?_)))
  refine run_if rfl rfl (fun h3=>?_) (fun h3=>?_)
  ·replace F1:=ift h3 F1
   obtain ⟨h4,F1⟩:=ifg F1
   obtain ⟨h5,F1⟩:=ifg F1
   refine sk rfl (sq rfl (bk rfl (sq rfl (rC [(0,.v (.sl S56) x0),(1,.v (.sl S56) x1),(5,vi s1),(25,vb (!(Sh.eqb S56 (getD x0 (toNat s1) S56.dflt) (getD x1 (toNat s1) S56.dflt))))] [] [] [] 5000 rfl (cc h4 (cc h5 c0)) ?_))))
   refine run_if rfl rfl (fun h6=>?_) (fun h6=>?_)
   ·replace F1:=ift h6 F1
    refine sq rfl (rB [(4,vb false)] [] 5000 rfl c0 ?_)
    have e1:=inrI hr1 F1
    subst e1
    replace F0:=sumL F0
    obtain rfl:=inj F0
    exact ret_pure (q:=[vb false]) [.bool] rfl rfl (by kernel_rfl)
   ·replace F1:=ifn h6 F1
    refine sk rfl (eb (rB [(0,.v (.sl S56) x0),(1,.v (.sl S56) x1),(5,vi (wrap .i64 (s1+1)))] [] 5000 rfl c0 ?_))
    exact ih1 _ (inj F1).symm
  ·replace F1:=ifn h3 F1
   refine run_exit rfl rfl (tm (ρ':=[]) (H':=[]) (by kernel_rfl) (by kernel_rfl) rfl ?_)
   exact J1_1 _ (inrI hr1 F1).symm
noncomputable def F_congressref18_Same_b1 (x0:(List S43.ty)) (x1:(List S43.ty)) (s1:Int):Option (Int⊕(Bool⊕Unit)) :=
 if (decide (s1<((length x0:Nat):Int)))=true then if 0≤s1∧s1<((length x0:Nat):Int) then (if 0≤s1∧s1<((length x1:Nat):Int) then (if (!(Sh.eqb S43 (getD x0 (toNat s1) S43.dflt) (getD x1 (toNat s1) S43.dflt)))=true then some (Sum.inr (Sum.inl false)) else some (Sum.inl (wrap .i64 (s1+1)))) else none) else none else some (Sum.inr (Sum.inr ()))
noncomputable def F_congressref18_Same (x0:(List S43.ty)) (x1:(List S43.ty)):Option Bool :=
 if (((length x0:Nat):Int) != ((length x1:Nat):Int))=true then some false else (loopO (F_congressref18_Same_b1 x0 x1) 0).bind (Sum.elim some (fun j11=>some true))
theorem W_congressref18_Same {x0:(List S43.ty)} {x1:(List S43.ty)} {y:Bool} (F0:F_congressref18_Same x0 x1=some y):Pure Tryz.prog 39 [.v (.sl S43) x0,.v (.sl S43) x1] (vb y):=by
 unfold F_congressref18_Same at F0
 refine pure_of_run @Tryz.call39 @Tryz.func39 rfl rfl fun w M ho=>?_
 refine sq rfl ?_
 refine sE (oE [0,1] [] 5000 rfl (qE rfl (qE rfl (oE [0,1,10] [] 5000 rfl (fA [(0,.v (.sl S43) x0),(1,.v (.sl S43) x1),(10,vb (((length x0:Nat):Int) != ((length x1:Nat):Int)))] [] c0 ?_)))))
 refine run_if rfl rfl (fun h1=>?_) (fun h1=>?_)
 ·replace F0:=ift h1 F0
  refine sq rfl (rB [(4,vb false)] [] 5000 rfl c0 ?_)
  obtain rfl:=inj F0
  exact ret_pure (q:=[vb false]) [.bool] rfl rfl (by kernel_rfl)
 ·replace F0:=ifn h1 F0
  obtain ⟨r1,hl1,F0⟩:=obd F0
  refine sk rfl (sq rfl (sq rfl (rB [(0,.v (.sl S43) x0),(1,.v (.sl S43) x1),(5,vi 0)] [] 5000 rfl c0 (bk rfl ?_))))
  refine run_cutx 0 rfl (fun j11=>r1=Sum.inr j11) (fun j11=>[]) (fun j11=>[]) (fun j11 h2=>?_) (fun J1_1=>?_)
  ·subst h2
   replace F0:=sumR F0
   refine sq rfl (rB [(4,vb true)] [] 5000 rfl c0 ?_)
   obtain rfl:=inj F0
   exact ret_pure (q:=[vb true]) [.bool] rfl rfl (by kernel_rfl)
  refine run_loop rfl (run_loopO hl1 (fun s1=>[(0,.v (.sl S43) x0),(1,.v (.sl S43) x1),(5,vi s1)]) (fun s1=>[]) rfl rfl (fun s1 o1 F1 ih1 hr1=>?_))
  unfold F_congressref18_Same_b1 at F1
  refine run_again (sq rfl (sq rfl (rB [(0,.v (.sl S43) x0),(1,.v (.sl S43) x1),(5,vi s1),(14,vb (decide (s1<((length x0:Nat):Int))))] [] 5000 rfl c0 ?_)))
  refine run_if rfl rfl (fun h3=>?_) (fun h3=>?_)
  ·replace F1:=ift h3 F1
   obtain ⟨h4,F1⟩:=ifg F1
   obtain ⟨h5,F1⟩:=ifg F1
   refine sk rfl (sq rfl (bk rfl (sq rfl (rC [(0,.v (.sl S43) x0),(1,.v (.sl S43) x1),(5,vi s1),(25,vb (!(Sh.eqb S43 (getD x0 (toNat s1) S43.dflt) (getD x1 (toNat s1) S43.dflt))))] [] [] [] 5000 rfl (cc h4 (cc h5 c0)) ?_))))
   refine run_if rfl rfl (fun h6=>?_) (fun h6=>?_)
   ·replace F1:=ift h6 F1
    refine sq rfl (rB [(4,vb false)] [] 5000 rfl c0 ?_)
    have e1:=inrI hr1 F1
    subst e1
    replace F0:=sumL F0
    obtain rfl:=inj F0
    exact ret_pure (q:=[vb false]) [.bool] rfl rfl (by kernel_rfl)
   ·replace F1:=ifn h6 F1
    refine sk rfl (eb (rB [(0,.v (.sl S43) x0),(1,.v (.sl S43) x1),(5,vi (wrap .i64 (s1+1)))] [] 5000 rfl c0 ?_))
    exact ih1 _ (inj F1).symm
  ·replace F1:=ifn h3 F1
   refine run_exit rfl rfl (tm (ρ':=[]) (H':=[]) (by kernel_rfl) (by kernel_rfl) rfl ?_)
   exact J1_1 _ (inrI hr1 F1).symm
noncomputable def F_congressref04_Entries_b1 (x0:(List S58.ty)) (x1:(List S58.ty)) (s1:Int):Option (Int⊕(Bool⊕Unit)) :=
 if (decide (s1<((length x0:Nat):Int)))=true then if 0≤s1∧s1<((length x0:Nat):Int) then (if 0≤s1∧s1<((length x1:Nat):Int) then (if (!(Sh.eqb S58 (getD x0 (toNat s1) S58.dflt) (getD x1 (toNat s1) S58.dflt)))=true then some (Sum.inr (Sum.inl false)) else some (Sum.inl (wrap .i64 (s1+1)))) else none) else none else some (Sum.inr (Sum.inr ()))
noncomputable def F_congressref04_Entries (x0:(List S58.ty)) (x1:(List S58.ty)):Option Bool :=
 if (((length x0:Nat):Int) != ((length x1:Nat):Int))=true then some false else (loopO (F_congressref04_Entries_b1 x0 x1) 0).bind (Sum.elim some (fun j11=>some true))
theorem W_congressref04_Entries {x0:(List S58.ty)} {x1:(List S58.ty)} {y:Bool} (F0:F_congressref04_Entries x0 x1=some y):Pure Tryz.prog 40 [.v (.sl S58) x0,.v (.sl S58) x1] (vb y):=by
 unfold F_congressref04_Entries at F0
 refine pure_of_run @Tryz.call40 @Tryz.func40 rfl rfl fun w M ho=>?_
 refine sq rfl ?_
 refine sE (oE [0,1] [] 5000 rfl (qE rfl (qE rfl (oE [0,1,10] [] 5000 rfl (fA [(0,.v (.sl S58) x0),(1,.v (.sl S58) x1),(10,vb (((length x0:Nat):Int) != ((length x1:Nat):Int)))] [] c0 ?_)))))
 refine run_if rfl rfl (fun h1=>?_) (fun h1=>?_)
 ·replace F0:=ift h1 F0
  refine sq rfl (rB [(4,vb false)] [] 5000 rfl c0 ?_)
  obtain rfl:=inj F0
  exact ret_pure (q:=[vb false]) [.bool] rfl rfl (by kernel_rfl)
 ·replace F0:=ifn h1 F0
  obtain ⟨r1,hl1,F0⟩:=obd F0
  refine sk rfl (sq rfl (sq rfl (rB [(0,.v (.sl S58) x0),(1,.v (.sl S58) x1),(5,vi 0)] [] 5000 rfl c0 (bk rfl ?_))))
  refine run_cutx 0 rfl (fun j11=>r1=Sum.inr j11) (fun j11=>[]) (fun j11=>[]) (fun j11 h2=>?_) (fun J1_1=>?_)
  ·subst h2
   replace F0:=sumR F0
   refine sq rfl (rB [(4,vb true)] [] 5000 rfl c0 ?_)
   obtain rfl:=inj F0
   exact ret_pure (q:=[vb true]) [.bool] rfl rfl (by kernel_rfl)
  refine run_loop rfl (run_loopO hl1 (fun s1=>[(0,.v (.sl S58) x0),(1,.v (.sl S58) x1),(5,vi s1)]) (fun s1=>[]) rfl rfl (fun s1 o1 F1 ih1 hr1=>?_))
  unfold F_congressref04_Entries_b1 at F1
  refine run_again (sq rfl (sq rfl (rB [(0,.v (.sl S58) x0),(1,.v (.sl S58) x1),(5,vi s1),(14,vb (decide (s1<((length x0:Nat):Int))))] [] 5000 rfl c0 ?_)))
  refine run_if rfl rfl (fun h3=>?_) (fun h3=>?_)
  ·replace F1:=ift h3 F1
   obtain ⟨h4,F1⟩:=ifg F1
   obtain ⟨h5,F1⟩:=ifg F1
   refine sk rfl (sq rfl (bk rfl (sq rfl (rC [(0,.v (.sl S58) x0),(1,.v (.sl S58) x1),(5,vi s1),(25,vb (!(Sh.eqb S58 (getD x0 (toNat s1) S58.dflt) (getD x1 (toNat s1) S58.dflt))))] [] [] [] 5000 rfl (cc h4 (cc h5 c0)) ?_))))
   refine run_if rfl rfl (fun h6=>?_) (fun h6=>?_)
   ·replace F1:=ift h6 F1
    refine sq rfl (rB [(4,vb false)] [] 5000 rfl c0 ?_)
    have e1:=inrI hr1 F1
    subst e1
    replace F0:=sumL F0
    obtain rfl:=inj F0
    exact ret_pure (q:=[vb false]) [.bool] rfl rfl (by kernel_rfl)
   ·replace F1:=ifn h6 F1
    refine sk rfl (eb (rB [(0,.v (.sl S58) x0),(1,.v (.sl S58) x1),(5,vi (wrap .i64 (s1+1)))] [] 5000 rfl c0 ?_))
    exact ih1 _ (inj F1).symm
  ·replace F1:=ifn h3 F1
   refine run_exit rfl rfl (tm (ρ':=[]) (H':=[]) (by kernel_rfl) (by kernel_rfl) rfl ?_)
   exact J1_1 _ (inrI hr1 F1).symm
noncomputable def F_congressref22_Same_b1 (x0:(List S115.ty)) (x1:(List S115.ty)) (s1:Int):Option (Int⊕(Bool⊕Unit)) :=
 if (decide (s1<((length x0:Nat):Int)))=true then if 0≤s1∧s1<((length x0:Nat):Int) then (if 0≤s1∧s1<((length x1:Nat):Int) then (if (!(Sh.eqb S115 (getD x0 (toNat s1) S115.dflt) (getD x1 (toNat s1) S115.dflt)))=true then some (Sum.inr (Sum.inl false)) else some (Sum.inl (wrap .i64 (s1+1)))) else none) else none else some (Sum.inr (Sum.inr ()))
noncomputable def F_congressref22_Same (x0:(List S115.ty)) (x1:(List S115.ty)):Option Bool :=
 if (((length x0:Nat):Int) != ((length x1:Nat):Int))=true then some false else (loopO (F_congressref22_Same_b1 x0 x1) 0).bind (Sum.elim some (fun j11=>some true))
theorem W_congressref22_Same {x0:(List S115.ty)} {x1:(List S115.ty)} {y:Bool} (F0:F_congressref22_Same x0 x1=some y):Pure Tryz.prog 41 [.v (.sl S115) x0,.v (.sl S115) x1] (vb y):=by
 unfold F_congressref22_Same at F0
 refine pure_of_run @Tryz.call41 @Tryz.func41 rfl rfl fun w M ho=>?_
 refine sq rfl ?_
 refine sE (oE [0,1] [] 5000 rfl (qE rfl (qE rfl (oE [0,1,10] [] 5000 rfl (fA [(0,.v (.sl S115) x0),(1,.v (.sl S115) x1),(10,vb (((length x0:Nat):Int) != ((length x1:Nat):Int)))] [] c0 ?_)))))
 refine run_if rfl rfl (fun h1=>?_) (fun h1=>?_)
 ·replace F0:=ift h1 F0
  refine sq rfl (rB [(4,vb false)] [] 5000 rfl c0 ?_)
  obtain rfl:=inj F0
  exact ret_pure (q:=[vb false]) [.bool] rfl rfl (by kernel_rfl)
 ·replace F0:=ifn h1 F0
  obtain ⟨r1,hl1,F0⟩:=obd F0
  refine sk rfl (sq rfl (sq rfl (rB [(0,.v (.sl S115) x0),(1,.v (.sl S115) x1),(5,vi 0)] [] 5000 rfl c0 (bk rfl ?_))))
  refine run_cutx 0 rfl (fun j11=>r1=Sum.inr j11) (fun j11=>[]) (fun j11=>[]) (fun j11 h2=>?_) (fun J1_1=>?_)
  ·subst h2
   replace F0:=sumR F0
   refine sq rfl (rB [(4,vb true)] [] 5000 rfl c0 ?_)
   obtain rfl:=inj F0
   exact ret_pure (q:=[vb true]) [.bool] rfl rfl (by kernel_rfl)
  refine run_loop rfl (run_loopO hl1 (fun s1=>[(0,.v (.sl S115) x0),(1,.v (.sl S115) x1),(5,vi s1)]) (fun s1=>[]) rfl rfl (fun s1 o1 F1 ih1 hr1=>?_))
  unfold F_congressref22_Same_b1 at F1
  refine run_again (sq rfl (sq rfl (rB [(0,.v (.sl S115) x0),(1,.v (.sl S115) x1),(5,vi s1),(14,vb (decide (s1<((length x0:Nat):Int))))] [] 5000 rfl c0 ?_)))
  refine run_if rfl rfl (fun h3=>?_) (fun h3=>?_)
  ·replace F1:=ift h3 F1
   obtain ⟨h4,F1⟩:=ifg F1
   obtain ⟨h5,F1⟩:=ifg F1
   refine sk rfl (sq rfl (bk rfl (sq rfl (rC [(0,.v (.sl S115) x0),(1,.v (.sl S115) x1),(5,vi s1),(25,vb (!(Sh.eqb S115 (getD x0 (toNat s1) S115.dflt) (getD x1 (toNat s1) S115.dflt))))] [] [] [] 5000 rfl (cc h4 (cc h5 c0)) ?_))))
   refine run_if rfl rfl (fun h6=>?_) (fun h6=>?_)
   ·replace F1:=ift h6 F1
    refine sq rfl (rB [(4,vb false)] [] 5000 rfl c0 ?_)
    have e1:=inrI hr1 F1
    subst e1
    replace F0:=sumL F0
    obtain rfl:=inj F0
    exact ret_pure (q:=[vb false]) [.bool] rfl rfl (by kernel_rfl)
   ·replace F1:=ifn h6 F1
    refine sk rfl (eb (rB [(0,.v (.sl S115) x0),(1,.v (.sl S115) x1),(5,vi (wrap .i64 (s1+1)))] [] 5000 rfl c0 ?_))
    exact ih1 _ (inj F1).symm
  ·replace F1:=ifn h3 F1
   refine run_exit rfl rfl (tm (ρ':=[]) (H':=[]) (by kernel_rfl) (by kernel_rfl) rfl ?_)
   exact J1_1 _ (inrI hr1 F1).symm
noncomputable def F_congressref23_Still (x0:S38.ty) (x1:S38.ty):Option Bool :=
 (show Option Bool from if (x0.1==x1.1)=true then if (x0.2.1==x1.2.1)=true then (F_congressref19_Same x0.2.2.1 x1.2.2.1).bind fun t5=>(if (t5)=true then (F_congressref17_Is x0.2.2.2.2.1 x1.2.2.2.2.1).bind fun t6=>(if (t6)=true then (F_congressref16_Same x0.2.2.2.2.2.1 x1.2.2.2.2.2.1).bind fun t7=>(if (t7)=true then (F_congressref18_Same x0.2.2.2.2.2.2.1 x1.2.2.2.2.2.2.1).bind fun t8=>(some t8) else some false) else some false) else some false) else some false else some false).bind (fun r1=>(show Option Bool from if (r1)=true then (F_congressref04_Entries x0.2.2.2.2.2.2.2.1 x1.2.2.2.2.2.2.2.1).bind fun t1=>(if (t1)=true then (F_congressref04_Entries x0.2.2.2.2.2.2.2.2.1 x1.2.2.2.2.2.2.2.2.1).bind fun t2=>(if (t2)=true then if (x0.2.2.2.2.2.2.2.2.2.1==x1.2.2.2.2.2.2.2.2.2.1)=true then (F_congressref18_Same x0.2.2.2.2.2.2.2.2.2.2.1 x1.2.2.2.2.2.2.2.2.2.2.1).bind fun t3=>(if (t3)=true then (F_congressref22_Same x0.2.2.2.2.2.2.2.2.2.2.2.1 x1.2.2.2.2.2.2.2.2.2.2.2.1).bind fun t4=>(some t4) else some false) else some false else some false) else some false) else some false).bind (fun r2=>(show Option Bool from if (r2)=true then if (Sh.eqb S33 x0.2.2.2.2.2.2.2.2.2.2.2.2.1 x1.2.2.2.2.2.2.2.2.2.2.2.2.1)=true then if (Sh.eqb (.arr 8 (.int .u32)) x0.2.2.2.2.2.2.2.2.2.2.2.2.2.1 x1.2.2.2.2.2.2.2.2.2.2.2.2.2.1)=true then some (x0.2.2.2.2.2.2.2.2.2.2.2.2.2.2.1==x1.2.2.2.2.2.2.2.2.2.2.2.2.2.2.1) else some false else some false else some false).bind (fun r3=>some r3)))
theorem W_congressref23_Still {x0:S38.ty} {x1:S38.ty} {y:Bool} (F0:F_congressref23_Still x0 x1=some y):Pure Tryz.prog 15 [.v S38 x0,.v S38 x1] (vb y):=by
 unfold F_congressref23_Still at F0
 refine pure_of_run @Tryz.call15 @Tryz.func15 rfl rfl fun w M ho=>?_
 obtain ⟨r1,F1,F0⟩:=obd F0
 refine sq rfl (rB [(2,.ptr 5000 [] 0),(3,.ptr 5020 [] 0)] [(5000,.var 38 S38 x0),(5020,.var 38 S38 x1)] 5000 rfl c0 (sq rfl ?_))
 refine run_cut (fun r1'=>r1=r1') (fun r1=>[(2,.ptr 5000 [] 0),(3,.ptr 5020 [] 0),(5,vb r1)]) (fun r1=>[(5000,.var 38 S38 x0),(5020,.var 38 S38 x1)]) (fun r1' h1=>?_) (fun J1_0=>?_)
 ·subst h1
  obtain ⟨r2,F1,F0⟩:=obd F0
  refine sq rfl ?_
  refine run_cut (fun r2'=>r2=r2') (fun r2=>[(2,.ptr 5000 [] 0),(3,.ptr 5020 [] 0),(5,vb r2)]) (fun r2=>[(5000,.var 38 S38 x0),(5020,.var 38 S38 x1)]) (fun r2' h2=>?_) (fun J2_0=>?_)
  ·subst h2
   obtain ⟨r3,F1,F0⟩:=obd F0
   refine sq rfl ?_
   refine run_cut (fun r3'=>r3=r3') (fun r3=>[(4,vb r3)]) (fun r3=>[]) (fun r3' h3=>?_) (fun J3_0=>?_)
   ·subst h3
    obtain rfl:=inj F0
    exact ret_pure (q:=[vb r3]) [.bool] rfl rfl (by kernel_rfl)
   rcases Bool.eq_false_or_eq_true (r2) with h4|h4
   ·replace F1:=ift h4 F1
    rcases Bool.eq_false_or_eq_true (Sh.eqb S33 x0.2.2.2.2.2.2.2.2.2.2.2.2.1 x1.2.2.2.2.2.2.2.2.2.2.2.2.1) with h5|h5
    ·replace F1:=ift h5 F1
     rcases Bool.eq_false_or_eq_true (Sh.eqb (.arr 8 (.int .u32)) x0.2.2.2.2.2.2.2.2.2.2.2.2.2.1 x1.2.2.2.2.2.2.2.2.2.2.2.2.2.1) with h6|h6
     ·replace F1:=ift h6 F1
      refine rA [(4,vb (x0.2.2.2.2.2.2.2.2.2.2.2.2.2.2.1==x1.2.2.2.2.2.2.2.2.2.2.2.2.2.2.1))] [] [] [(1,true),(8,true),(15,true)] 5021 rfl (cc h4 (cc h5 (cc h6 c0))) ?_
      exact J3_0 _ (inj F1).symm
     ·replace F1:=ifn h6 F1
      refine rA [(4,vb false)] [] [] [(1,true),(8,true),(15,false)] 5021 rfl (cc h4 (cc h5 (cc h6 c0))) ?_
      exact J3_0 _ (inj F1).symm
    ·replace F1:=ifn h5 F1
     refine rA [(4,vb false)] [] [] [(1,true),(8,false)] 5021 rfl (cc h4 (cc h5 c0)) ?_
     exact J3_0 _ (inj F1).symm
   ·replace F1:=ifn h4 F1
    refine rA [(4,vb false)] [] [] [(1,false)] 5021 rfl (cc h4 c0) ?_
    exact J3_0 _ (inj F1).symm
  rcases Bool.eq_false_or_eq_true (r1) with h7|h7
  ·replace F1:=ift h7 F1
   obtain ⟨t1,h8,F1⟩:=obd F1
   rcases Bool.eq_false_or_eq_true (t1) with h9|h9
   ·replace F1:=ift h9 F1
    obtain ⟨t2,h10,F1⟩:=obd F1
    rcases Bool.eq_false_or_eq_true (t2) with h11|h11
    ·replace F1:=ift h11 F1
     rcases Bool.eq_false_or_eq_true (x0.2.2.2.2.2.2.2.2.2.1==x1.2.2.2.2.2.2.2.2.2.1) with h12|h12
     ·replace F1:=ift h12 F1
      obtain ⟨t3,h13,F1⟩:=obd F1
      rcases Bool.eq_false_or_eq_true (t3) with h14|h14
      ·replace F1:=ift h14 F1
       obtain ⟨t4,h15,F1⟩:=obd F1
       refine rA [(2,.ptr 5000 [] 0),(3,.ptr 5020 [] 0),(5,vb t4)] [(5000,.var 38 S38 x0),(5020,.var 38 S38 x1)] [(6,⟨[.v (.sl S58),.v (.sl S58)],vb t1,none⟩),(13,⟨[.v (.sl S58),.v (.sl S58)],vb t2,none⟩),(27,⟨[.v (.sl S43),.v (.sl S43)],vb t3,none⟩),(34,⟨[.v (.sl S115),.v (.sl S115)],vb t4,none⟩)] [(1,true),(8,true),(15,true),(22,true),(29,true)] 5021 rfl (cc h7 (cc (W_congressref04_Entries h8) (cc h9 (cc (W_congressref04_Entries h10) (cc h11 (cc h12 (cc (W_congressref18_Same h13) (cc h14 (cc (W_congressref22_Same h15) c0))))))))) ?_
       exact J2_0 _ (inj F1).symm
      ·replace F1:=ifn h14 F1
       refine rA [(2,.ptr 5000 [] 0),(3,.ptr 5020 [] 0),(5,vb false)] [(5000,.var 38 S38 x0),(5020,.var 38 S38 x1)] [(6,⟨[.v (.sl S58),.v (.sl S58)],vb t1,none⟩),(13,⟨[.v (.sl S58),.v (.sl S58)],vb t2,none⟩),(27,⟨[.v (.sl S43),.v (.sl S43)],vb t3,none⟩)] [(1,true),(8,true),(15,true),(22,true),(29,false)] 5021 rfl (cc h7 (cc (W_congressref04_Entries h8) (cc h9 (cc (W_congressref04_Entries h10) (cc h11 (cc h12 (cc (W_congressref18_Same h13) (cc h14 c0)))))))) ?_
       exact J2_0 _ (inj F1).symm
     ·replace F1:=ifn h12 F1
      refine rA [(2,.ptr 5000 [] 0),(3,.ptr 5020 [] 0),(5,vb false)] [(5000,.var 38 S38 x0),(5020,.var 38 S38 x1)] [(6,⟨[.v (.sl S58),.v (.sl S58)],vb t1,none⟩),(13,⟨[.v (.sl S58),.v (.sl S58)],vb t2,none⟩)] [(1,true),(8,true),(15,true),(22,false)] 5021 rfl (cc h7 (cc (W_congressref04_Entries h8) (cc h9 (cc (W_congressref04_Entries h10) (cc h11 (cc h12 c0)))))) ?_
      exact J2_0 _ (inj F1).symm
    ·replace F1:=ifn h11 F1
     refine rA [(2,.ptr 5000 [] 0),(3,.ptr 5020 [] 0),(5,vb false)] [(5000,.var 38 S38 x0),(5020,.var 38 S38 x1)] [(6,⟨[.v (.sl S58),.v (.sl S58)],vb t1,none⟩),(13,⟨[.v (.sl S58),.v (.sl S58)],vb t2,none⟩)] [(1,true),(8,true),(15,false)] 5021 rfl (cc h7 (cc (W_congressref04_Entries h8) (cc h9 (cc (W_congressref04_Entries h10) (cc h11 c0))))) ?_
     exact J2_0 _ (inj F1).symm
   ·replace F1:=ifn h9 F1
    refine rA [(2,.ptr 5000 [] 0),(3,.ptr 5020 [] 0),(5,vb false)] [(5000,.var 38 S38 x0),(5020,.var 38 S38 x1)] [(6,⟨[.v (.sl S58),.v (.sl S58)],vb t1,none⟩)] [(1,true),(8,false)] 5021 rfl (cc h7 (cc (W_congressref04_Entries h8) (cc h9 c0))) ?_
    exact J2_0 _ (inj F1).symm
  ·replace F1:=ifn h7 F1
   refine rA [(2,.ptr 5000 [] 0),(3,.ptr 5020 [] 0),(5,vb false)] [(5000,.var 38 S38 x0),(5020,.var 38 S38 x1)] [] [(1,false)] 5021 rfl (cc h7 c0) ?_
   exact J2_0 _ (inj F1).symm
 rcases Bool.eq_false_or_eq_true (x0.1==x1.1) with h16|h16
 ·replace F1:=ift h16 F1
  rcases Bool.eq_false_or_eq_true (x0.2.1==x1.2.1) with h17|h17
  ·replace F1:=ift h17 F1
   obtain ⟨t5,h18,F1⟩:=obd F1
   rcases Bool.eq_false_or_eq_true (t5) with h19|h19
   ·replace F1:=ift h19 F1
    obtain ⟨t6,h20,F1⟩:=obd F1
    rcases Bool.eq_false_or_eq_true (t6) with h21|h21
    ·replace F1:=ift h21 F1
     obtain ⟨t7,h22,F1⟩:=obd F1
     rcases Bool.eq_false_or_eq_true (t7) with h23|h23
     ·replace F1:=ift h23 F1
      obtain ⟨t8,h24,F1⟩:=obd F1
      refine rA [(2,.ptr 5000 [] 0),(3,.ptr 5020 [] 0),(5,vb t8)] [(5000,.var 38 S38 x0),(5020,.var 38 S38 x1)] [(17,⟨[.v (.sl (.int .u64)),.v (.sl (.int .u64))],vb t5,none⟩),(24,⟨[.v S26,.v S26],vb t6,none⟩),(31,⟨[.v (.sl S56),.v (.sl S56)],vb t7,none⟩),(38,⟨[.v (.sl S43),.v (.sl S43)],vb t8,none⟩)] [(5,true),(12,true),(19,true),(26,true),(33,true)] 5021 rfl (cc h16 (cc h17 (cc (W_congressref19_Same h18) (cc h19 (cc (W_congressref17_Is h20) (cc h21 (cc (W_congressref16_Same h22) (cc h23 (cc (W_congressref18_Same h24) c0))))))))) ?_
      exact J1_0 _ (inj F1).symm
     ·replace F1:=ifn h23 F1
      refine rA [(2,.ptr 5000 [] 0),(3,.ptr 5020 [] 0),(5,vb false)] [(5000,.var 38 S38 x0),(5020,.var 38 S38 x1)] [(17,⟨[.v (.sl (.int .u64)),.v (.sl (.int .u64))],vb t5,none⟩),(24,⟨[.v S26,.v S26],vb t6,none⟩),(31,⟨[.v (.sl S56),.v (.sl S56)],vb t7,none⟩)] [(5,true),(12,true),(19,true),(26,true),(33,false)] 5021 rfl (cc h16 (cc h17 (cc (W_congressref19_Same h18) (cc h19 (cc (W_congressref17_Is h20) (cc h21 (cc (W_congressref16_Same h22) (cc h23 c0)))))))) ?_
      exact J1_0 _ (inj F1).symm
    ·replace F1:=ifn h21 F1
     refine rA [(2,.ptr 5000 [] 0),(3,.ptr 5020 [] 0),(5,vb false)] [(5000,.var 38 S38 x0),(5020,.var 38 S38 x1)] [(17,⟨[.v (.sl (.int .u64)),.v (.sl (.int .u64))],vb t5,none⟩),(24,⟨[.v S26,.v S26],vb t6,none⟩)] [(5,true),(12,true),(19,true),(26,false)] 5021 rfl (cc h16 (cc h17 (cc (W_congressref19_Same h18) (cc h19 (cc (W_congressref17_Is h20) (cc h21 c0)))))) ?_
     exact J1_0 _ (inj F1).symm
   ·replace F1:=ifn h19 F1
    refine rA [(2,.ptr 5000 [] 0),(3,.ptr 5020 [] 0),(5,vb false)] [(5000,.var 38 S38 x0),(5020,.var 38 S38 x1)] [(17,⟨[.v (.sl (.int .u64)),.v (.sl (.int .u64))],vb t5,none⟩)] [(5,true),(12,true),(19,false)] 5021 rfl (cc h16 (cc h17 (cc (W_congressref19_Same h18) (cc h19 c0)))) ?_
    exact J1_0 _ (inj F1).symm
  ·replace F1:=ifn h17 F1
   refine rA [(2,.ptr 5000 [] 0),(3,.ptr 5020 [] 0),(5,vb false)] [(5000,.var 38 S38 x0),(5020,.var 38 S38 x1)] [] [(5,true),(12,false)] 5021 rfl (cc h16 (cc h17 c0)) ?_
   exact J1_0 _ (inj F1).symm
 ·replace F1:=ifn h16 F1
  refine rA [(2,.ptr 5000 [] 0),(3,.ptr 5020 [] 0),(5,vb false)] [(5000,.var 38 S38 x0),(5020,.var 38 S38 x1)] [] [(5,false)] 5021 rfl (cc h16 c0) ?_
  exact J1_0 _ (inj F1).symm
noncomputable def F_congresslaw23_held (x0:S38.ty) (x1:Int):Option Bool :=
 (F_congressref16_Find x0.2.2.2.2.2.1 x1).bind fun t1=>(some (decide (t1≥0)))
theorem W_congresslaw23_held {x0:S38.ty} {x1:Int} {y:Bool} (F0:F_congresslaw23_held x0 x1=some y):Pure Tryz.prog 16 [.v S38 x0,vu x1] (vb y):=by
 unfold F_congresslaw23_held at F0
 refine pure_of_run @Tryz.call16 @Tryz.func16 rfl rfl fun w M ho=>?_
 obtain ⟨t1,h1,F0⟩:=obd F0
 refine sq rfl ?_
 refine sE (oE [1,2] [5000] 5000 rfl (qE rfl (rE [4] [] [(3,⟨[.v (.sl S56),.v (.int .u64)],vi t1,none⟩)] [] 5001 rfl (fA [(4,vb (decide (t1≥0)))] [] (cc (W_congressref16_Find h1) c0) ?_))))
 obtain rfl:=inj F0
 exact ret_pure (q:=[vb (decide (t1≥0))]) [.bool] rfl rfl (by kernel_rfl)
def KS1:Str:=[115,101,110,100,32,57,32,49,32,115,97,102,101,32,61,104,105]
def KS2:Str:=[115,101,110,100,32,56,32,49,32,115,97,102,101,32,61,104,105]
noncomputable def F_congresslaw23_fixed:Option Bool :=
 (F_lane_Start 0 0 [9] (0,0,1) (List.set (replicate 8 0) 0 1)).bind fun t1=>((F_lane_Call t1 1 ([111,112,101,110]:Str)).bind fun t2=>((F_lane_Call t2.1 1 ([106,111,105,110,32,57,32,49]:Str)).bind fun t3=>((F_lane_Call t3.1 1 KS1).bind fun t4=>((F_lane_Call t4.1 1 KS2).bind fun t5=>((F_lane_Emit t4.1).bind fun t6=>((show Option Bool from if (t2.2.2.2.1==0)=true then if (t2.2.1==1)=true then if (t2.2.2.2.2.1==9)=true then if (t3.2.2.2.1==0)=true then if (((length t3.1.2.2.2.2.2.2.2.1:Nat):Int)==1)=true then if 0≤(0:Int)∧(0:Int)<((length t3.1.2.2.2.2.2.2.2.1:Nat):Int) then (if ((getD t3.1.2.2.2.2.2.2.2.1 (toNat 0) S58.dflt).1==2)=true then if (t4.2.2.2.1==0)=true then if (t4.2.2.2.2.2.1==1)=true then if (t5.2.2.2.1==160)=true then if (((length t6.2:Nat):Int)==2)=true then if 0≤(1:Int)∧(1:Int)<((length t6.2:Nat):Int) then (some ((getD t6.2 (toNat 1) S58.dflt).2.2.2.2.2==([104,105]:Str))) else none else some false else some false else some false else some false else some false) else none else some false else some false else some false else some false else some false).bind (fun r1=>some r1)))))))
theorem W_congresslaw23_fixed {y:Bool} (F0:F_congresslaw23_fixed=some y):Pure Tryz.prog 7 [] (vb y):=by
 unfold F_congresslaw23_fixed at F0
 refine pure_of_run @Tryz.call7 @Tryz.func7 rfl rfl fun w M ho=>?_
 obtain ⟨t1,h1,F0⟩:=obd F0
 obtain ⟨t2,h2,F0⟩:=obd F0
 obtain ⟨t3,h3,F0⟩:=obd F0
 obtain ⟨t4,h4,F0⟩:=obd F0
 obtain ⟨t5,h5,F0⟩:=obd F0
 obtain ⟨t6,h6,F0⟩:=obd F0
 obtain ⟨r1,F1,F0⟩:=obd F0
 refine sq rfl ?_
 refine sE (oE [] [] 5000 rfl (qE rfl (rE [1] [5080] [(0,⟨[],.v (.sl (.int .u64)) [9],none⟩),(3,⟨[.v (.int .i64),.v (.int .i64),.v (.sl (.int .u64)),.v S33,.v (.arr 8 (.int .u32))],.v S38 t1,none⟩)] [] 5000 rfl (qE rfl (rE [2,3] [5181,5201] [(1,⟨[.v S38,.v (.int .u32),.v .str],.tup [.v S38 t2.1,.v S45 t2.2],none⟩)] [] 5081 rfl (qE rfl (rE [3,4,5] [5201,5302,5322] [(1,⟨[.v S38,.v (.int .u32),.v .str],.tup [.v S38 t3.1,.v S45 t3.2],none⟩)] [] 5202 rfl (qE rfl (rE [3,4,5,6,7] [5201,5302,5322,5423,5443] [(1,⟨[.v S38,.v (.int .u32),.v .str],.tup [.v S38 t4.1,.v S45 t4.2],none⟩)] [] 5323 rfl (qE rfl (rE [3,4,5,6,7,9] [5201,5302,5322,5423,5443,5564] [(1,⟨[.v S38,.v (.int .u32),.v .str],.tup [.v S38 t5.1,.v S45 t5.2],none⟩)] [] 5444 rfl (qE rfl (rE [3,4,5,7,9,11] [5201,5302,5322,5443,5564] [(1,⟨[.v S38],.tup [.v S38 t6.1,.v (.sl S58) t6.2],none⟩)] [] 5565 rfl (fA [(3,.ptr 5201 [] 0),(4,.ptr 5302 [] 0),(5,.ptr 5322 [] 0),(7,.ptr 5443 [] 0),(9,.ptr 5564 [] 0),(11,.v (.sl S58) t6.2)] [(5201,.var 45 S45 t2.2),(5302,.var 38 S38 t3.1),(5322,.var 45 S45 t3.2),(5443,.var 45 S45 t4.2),(5564,.var 45 S45 t5.2)] (cc (W_lane_Start h1) (cc (W_lane_Call h2) (cc (W_lane_Call h3) (cc (W_lane_Call h4) (cc (W_lane_Call h5) (cc (W_lane_Emit h6) c0)))))) ?_))))))))))))))
 refine sq rfl ?_
 refine run_cut (fun r1'=>r1=r1') (fun r1=>[(0,vb r1)]) (fun r1=>[]) (fun r1' h7=>?_) (fun J1_0=>?_)
 ·subst h7
  obtain rfl:=inj F0
  exact ret_pure (q:=[vb r1]) [.bool] rfl rfl (by kernel_rfl)
 rcases Bool.eq_false_or_eq_true (t2.2.2.2.1==0) with h8|h8
 ·replace F1:=ift h8 F1
  rcases Bool.eq_false_or_eq_true (t2.2.1==1) with h9|h9
  ·replace F1:=ift h9 F1
   rcases Bool.eq_false_or_eq_true (t2.2.2.2.2.1==9) with h10|h10
   ·replace F1:=ift h10 F1
    rcases Bool.eq_false_or_eq_true (t3.2.2.2.1==0) with h11|h11
    ·replace F1:=ift h11 F1
     rcases Bool.eq_false_or_eq_true (((length t3.1.2.2.2.2.2.2.2.1:Nat):Int)==1) with h12|h12
     ·replace F1:=ift h12 F1
      obtain ⟨h13,F1⟩:=ifg F1
      rcases Bool.eq_false_or_eq_true ((getD t3.1.2.2.2.2.2.2.2.1 (toNat 0) S58.dflt).1==2) with h14|h14
      ·replace F1:=ift h14 F1
       rcases Bool.eq_false_or_eq_true (t4.2.2.2.1==0) with h15|h15
       ·replace F1:=ift h15 F1
        rcases Bool.eq_false_or_eq_true (t4.2.2.2.2.2.1==1) with h16|h16
        ·replace F1:=ift h16 F1
         rcases Bool.eq_false_or_eq_true (t5.2.2.2.1==160) with h17|h17
         ·replace F1:=ift h17 F1
          rcases Bool.eq_false_or_eq_true (((length t6.2:Nat):Int)==2) with h18|h18
          ·replace F1:=ift h18 F1
           obtain ⟨h19,F1⟩:=ifg F1
           refine rA [(0,vb ((getD t6.2 (toNat 1) S58.dflt).2.2.2.2.2==([104,105]:Str)))] [] [] [(3,true),(8,true),(13,true),(18,true),(24,true),(32,true),(37,true),(42,true),(47,true),(52,true)] 5565 rfl (cc h8 (cc h9 (cc h10 (cc h11 (cc h12 (cc h13 (cc h14 (cc h15 (cc h16 (cc h17 (cc h18 (cc h19 c0)))))))))))) ?_
           exact J1_0 _ (inj F1).symm
          ·replace F1:=ifn h18 F1
           refine rA [(0,vb false)] [] [] [(3,true),(8,true),(13,true),(18,true),(24,true),(32,true),(37,true),(42,true),(47,true),(52,false)] 5565 rfl (cc h8 (cc h9 (cc h10 (cc h11 (cc h12 (cc h13 (cc h14 (cc h15 (cc h16 (cc h17 (cc h18 c0))))))))))) ?_
           exact J1_0 _ (inj F1).symm
         ·replace F1:=ifn h17 F1
          refine rA [(0,vb false)] [] [] [(3,true),(8,true),(13,true),(18,true),(24,true),(32,true),(37,true),(42,true),(47,false)] 5565 rfl (cc h8 (cc h9 (cc h10 (cc h11 (cc h12 (cc h13 (cc h14 (cc h15 (cc h16 (cc h17 c0)))))))))) ?_
          exact J1_0 _ (inj F1).symm
        ·replace F1:=ifn h16 F1
         refine rA [(0,vb false)] [] [] [(3,true),(8,true),(13,true),(18,true),(24,true),(32,true),(37,true),(42,false)] 5565 rfl (cc h8 (cc h9 (cc h10 (cc h11 (cc h12 (cc h13 (cc h14 (cc h15 (cc h16 c0))))))))) ?_
         exact J1_0 _ (inj F1).symm
       ·replace F1:=ifn h15 F1
        refine rA [(0,vb false)] [] [] [(3,true),(8,true),(13,true),(18,true),(24,true),(32,true),(37,false)] 5565 rfl (cc h8 (cc h9 (cc h10 (cc h11 (cc h12 (cc h13 (cc h14 (cc h15 c0)))))))) ?_
        exact J1_0 _ (inj F1).symm
      ·replace F1:=ifn h14 F1
       refine rA [(0,vb false)] [] [] [(3,true),(8,true),(13,true),(18,true),(24,true),(32,false)] 5565 rfl (cc h8 (cc h9 (cc h10 (cc h11 (cc h12 (cc h13 (cc h14 c0))))))) ?_
       exact J1_0 _ (inj F1).symm
     ·replace F1:=ifn h12 F1
      refine rA [(0,vb false)] [] [] [(3,true),(8,true),(13,true),(18,true),(24,false)] 5565 rfl (cc h8 (cc h9 (cc h10 (cc h11 (cc h12 c0))))) ?_
      exact J1_0 _ (inj F1).symm
    ·replace F1:=ifn h11 F1
     refine rA [(0,vb false)] [] [] [(3,true),(8,true),(13,true),(18,false)] 5565 rfl (cc h8 (cc h9 (cc h10 (cc h11 c0)))) ?_
     exact J1_0 _ (inj F1).symm
   ·replace F1:=ifn h10 F1
    refine rA [(0,vb false)] [] [] [(3,true),(8,true),(13,false)] 5565 rfl (cc h8 (cc h9 (cc h10 c0))) ?_
    exact J1_0 _ (inj F1).symm
  ·replace F1:=ifn h9 F1
   refine rA [(0,vb false)] [] [] [(3,true),(8,false)] 5565 rfl (cc h8 (cc h9 c0)) ?_
   exact J1_0 _ (inj F1).symm
 ·replace F1:=ifn h8 F1
  refine rA [(0,vb false)] [] [] [(3,false)] 5565 rfl (cc h8 c0) ?_
  exact J1_0 _ (inj F1).symm
noncomputable def F_congresslaw23_LaneRights_b6 (t2:(S38.ty×S45.ty)) (x0:S38.ty) (s6:Int):Option (Int⊕(Bool⊕Unit)) :=
 if (decide (s6<((length x0.2.2.2.2.2.1:Nat):Int)))=true then if 0≤s6∧s6<((length x0.2.2.2.2.2.1:Nat):Int) then (show Option Bool from if ((getD x0.2.2.2.2.2.1 (toNat s6) S56.dflt).2.1==t2.2.1)=true then some (!((getD x0.2.2.2.2.2.1 (toNat s6) S56.dflt).2.2.2)) else some false).bind (fun r7=>if (r7)=true then some (Sum.inr (Sum.inl true)) else some (Sum.inl (wrap .i64 (s6+1)))) else none else some (Sum.inr (Sum.inr ()))
noncomputable def F_congresslaw23_LaneRights (x0:S38.ty) (x1:Int) (x2:Str):Option Bool :=
 (show Option Bool from (F_congresslaw23_fixed ).bind fun t7=>(if (!t7)=true then some true else (F_congressref23_May x0).bind fun t8=>(some (!t8)))).bind (fun r1=>if (r1)=true then (F_congresslaw23_fixed ).bind fun t1=>(some t1) else (F_lane_Call x0 x1 x2).bind fun t2=>((show Option Bool from if (((length t2.1.2.2.2.2.2.2.2.2.2.2.2.2.2.2.2:Nat):Int) != (wrap .i64 (((length x0.2.2.2.2.2.2.2.2.2.2.2.2.2.2.2:Nat):Int)+1)))=true then some true else if ((0:Int)≤((length x0.2.2.2.2.2.2.2.2.2.2.2.2.2.2.2:Nat):Int)∧0≤toNat ((length x0.2.2.2.2.2.2.2.2.2.2.2.2.2.2.2:Nat):Int)∧toNat ((length x0.2.2.2.2.2.2.2.2.2.2.2.2.2.2.2:Nat):Int)≤length t2.1.2.2.2.2.2.2.2.2.2.2.2.2.2.2.2) then (F_congressref20_Same (drop 0 (take (toNat ((length x0.2.2.2.2.2.2.2.2.2.2.2.2.2.2.2:Nat):Int)) t2.1.2.2.2.2.2.2.2.2.2.2.2.2.2.2.2)) x0.2.2.2.2.2.2.2.2.2.2.2.2.2.2.2).bind fun t6=>(some (!t6)) else none).bind (fun r2=>if (r2)=true then some false else if 0≤((length x0.2.2.2.2.2.2.2.2.2.2.2.2.2.2.2:Nat):Int)∧((length x0.2.2.2.2.2.2.2.2.2.2.2.2.2.2.2:Nat):Int)<((length t2.1.2.2.2.2.2.2.2.2.2.2.2.2.2.2.2:Nat):Int) then (show Option Bool from if (!((getD t2.1.2.2.2.2.2.2.2.2.2.2.2.2.2.2.2 (toNat ((length x0.2.2.2.2.2.2.2.2.2.2.2.2.2.2.2:Nat):Int)) S53.dflt).2.2.1==x2))=true then some true else if ((getD t2.1.2.2.2.2.2.2.2.2.2.2.2.2.2.2.2 (toNat ((length x0.2.2.2.2.2.2.2.2.2.2.2.2.2.2.2:Nat):Int)) S53.dflt).2.2.2 != t2.2.2.2.1)=true then some true else some (t2.2.2.1 != 0)).bind (fun r3=>if (r3)=true then some false else if (t2.2.2.2.1 != 0)=true then (show Option Bool from (F_congressref23_Still t2.1 x0).bind fun t3=>(if (t3)=true then if (t2.1.2.2.2.1==x0.2.2.2.1)=true then some (Sh.eqb S45 t2.2 (0,0,t2.2.2.2.1,0,0,0,(0,0,0),(0,0,0),(0,0,0),[],[])) else some false else some false)).bind (fun r4=>some r4) else if (x2==([111,112,101,110]:Str))=true then (show Option Bool from (F_congresslaw23_held x0 t2.2.2.2.2.1).bind fun t4=>(if (!t4)=true then (F_congresslaw23_held t2.1 t2.2.2.2.2.1).bind fun t5=>(if (t5)=true then some (((length t2.1.2.2.2.2.1.2:Nat):Int)==(wrap .i64 (((length x0.2.2.2.2.1.2:Nat):Int)+1))) else some false) else some false)).bind (fun r5=>some r5) else (loopO (F_congresslaw23_LaneRights_b6 t2 x0) 0).bind (Sum.elim some (fun j61=>some false))) else none)))
theorem W_congresslaw23_LaneRights {x0:S38.ty} {x1:Int} {x2:Str} {y:Bool} (F0:F_congresslaw23_LaneRights x0 x1 x2=some y):Pure Tryz.prog 4 [.v S38 x0,.v (.int .u32) x1,vs x2] (vb y):=by
 unfold F_congresslaw23_LaneRights at F0
 refine pure_of_run @Tryz.call4 @Tryz.func4 rfl rfl fun w M ho=>?_
 obtain ⟨r1,F1,F0⟩:=obd F0
 refine sq rfl (rB [(1,.v (.int .u32) x1),(2,vs x2),(3,.ptr 5000 [] 0)] [(5000,.var 38 S38 x0)] 5000 rfl c0 (sq rfl (sq rfl ?_)))
 refine run_cut (fun r1'=>r1=r1') (fun r1=>[(1,.v (.int .u32) x1),(2,vs x2),(3,.ptr 5000 [] 0),(18,vb r1)]) (fun r1=>[(5000,.var 38 S38 x0)]) (fun r1' h1=>?_) (fun J1_0=>?_)
 ·subst h1
  refine run_if rfl rfl (fun h2=>?_) (fun h2=>?_)
  ·replace F0:=ift h2 F0
   obtain ⟨t1,h3,F0⟩:=obd F0
   refine sq rfl (rA [(6,vb t1)] [] [(0,⟨[],vb t1,none⟩)] [] 5001 rfl (cc (W_congresslaw23_fixed h3) c0) ?_)
   obtain rfl:=inj F0
   exact ret_pure (q:=[vb t1]) [.bool] rfl rfl (by kernel_rfl)
  ·replace F0:=ifn h2 F0
   obtain ⟨t2,h4,F0⟩:=obd F0
   obtain ⟨r2,F1,F0⟩:=obd F0
   refine sk rfl (sq rfl (rA [(2,vs x2),(3,.ptr 5000 [] 0),(7,.ptr 5141 [] 0),(8,.ptr 5161 [] 0)] [(5000,.var 38 S38 x0),(5141,.var 38 S38 t2.1),(5161,.var 45 S45 t2.2)] [(3,⟨[.v S38,.v (.int .u32),.v .str],.tup [.v S38 t2.1,.v S45 t2.2],none⟩)] [] 5001 rfl (cc (W_lane_Call h4) c0) (sq rfl (sq rfl ?_))))
   refine run_cut (fun r2'=>r2=r2') (fun r2=>[(2,vs x2),(3,.ptr 5000 [] 0),(7,.ptr 5141 [] 0),(8,.ptr 5161 [] 0),(46,vb r2)]) (fun r2=>[(5000,.var 38 S38 x0),(5141,.var 38 S38 t2.1),(5161,.var 45 S45 t2.2)]) (fun r2' h5=>?_) (fun J2_0=>?_)
   ·subst h5
    refine run_if rfl rfl (fun h6=>?_) (fun h6=>?_)
    ·replace F0:=ift h6 F0
     refine sq rfl (rB [(6,vb false)] [] 5162 rfl c0 ?_)
     obtain rfl:=inj F0
     exact ret_pure (q:=[vb false]) [.bool] rfl rfl (by kernel_rfl)
    ·replace F0:=ifn h6 F0
     obtain ⟨h7,F0⟩:=ifg F0
     obtain ⟨r3,F1,F0⟩:=obd F0
     refine sk rfl (sq rfl (rB [(2,vs x2),(3,.ptr 5000 [] 0),(7,.ptr 5141 [] 0),(8,.ptr 5161 [] 0),(9,.ptr 5302 [] 0)] [(5000,.var 38 S38 x0),(5141,.var 38 S38 t2.1),(5161,.var 45 S45 t2.2),(5302,.var 53 S53 (getD t2.1.2.2.2.2.2.2.2.2.2.2.2.2.2.2.2 (toNat ((length x0.2.2.2.2.2.2.2.2.2.2.2.2.2.2.2:Nat):Int)) S53.dflt))] 5162 rfl (cc h7 c0) (sq rfl (sq rfl ?_))))
     refine run_cut (fun r3'=>r3=r3') (fun r3=>[(2,vs x2),(3,.ptr 5000 [] 0),(7,.ptr 5141 [] 0),(8,.ptr 5161 [] 0),(69,vb r3)]) (fun r3=>[(5000,.var 38 S38 x0),(5141,.var 38 S38 t2.1),(5161,.var 45 S45 t2.2)]) (fun r3' h8=>?_) (fun J3_0=>?_)
     ·subst h8
      refine run_if rfl rfl (fun h9=>?_) (fun h9=>?_)
      ·replace F0:=ift h9 F0
       refine sq rfl (rB [(6,vb false)] [] 5162 rfl c0 ?_)
       obtain rfl:=inj F0
       exact ret_pure (q:=[vb false]) [.bool] rfl rfl (by kernel_rfl)
      ·replace F0:=ifn h9 F0
       refine sk rfl (sq rfl (sq rfl (rB [(2,vs x2),(3,.ptr 5000 [] 0),(7,.ptr 5141 [] 0),(8,.ptr 5161 [] 0),(72,vb (t2.2.2.2.1 != 0))] [(5000,.var 38 S38 x0),(5141,.var 38 S38 t2.1),(5161,.var 45 S45 t2.2)] 5162 rfl c0 ?_)))
       refine run_if rfl rfl (fun h10=>?_) (fun h10=>?_)
       ·replace F0:=ift h10 F0
        obtain ⟨r4,F1,F0⟩:=obd F0
        refine sq rfl ?_
        refine run_cut (fun r4'=>r4=r4') (fun r4=>[(6,vb r4)]) (fun r4=>[]) (fun r4' h11=>?_) (fun J4_0=>?_)
        ·subst h11
         obtain rfl:=inj F0
         exact ret_pure (q:=[vb r4]) [.bool] rfl rfl (by kernel_rfl)
        obtain ⟨t3,h12,F1⟩:=obd F1
        rcases Bool.eq_false_or_eq_true (t3) with h13|h13
        ·replace F1:=ift h13 F1
         rcases Bool.eq_false_or_eq_true (t2.1.2.2.2.1==x0.2.2.2.1) with h14|h14
         ·replace F1:=ift h14 F1
          refine rA [(6,vb (Sh.eqb S45 t2.2 (0,0,t2.2.2.2.1,0,0,0,(0,0,0),(0,0,0),(0,0,0),[],[])))] [] [(2,⟨[.v S38,.v S38],vb t3,none⟩)] [(3,true),(10,true)] 5162 rfl (cc (W_congressref23_Still h12) (cc h13 (cc h14 c0))) ?_
          exact J4_0 _ (inj F1).symm
         ·replace F1:=ifn h14 F1
          refine rA [(6,vb false)] [] [(2,⟨[.v S38,.v S38],vb t3,none⟩)] [(3,true),(10,false)] 5162 rfl (cc (W_congressref23_Still h12) (cc h13 (cc h14 c0))) ?_
          exact J4_0 _ (inj F1).symm
        ·replace F1:=ifn h13 F1
         refine rA [(6,vb false)] [] [(2,⟨[.v S38,.v S38],vb t3,none⟩)] [(3,false)] 5162 rfl (cc (W_congressref23_Still h12) (cc h13 c0)) ?_
         exact J4_0 _ (inj F1).symm
       ·replace F0:=ifn h10 F0
        refine sk rfl (sq rfl (sq rfl (rB [(3,.ptr 5000 [] 0),(7,.ptr 5141 [] 0),(8,.ptr 5161 [] 0),(91,vb (x2==([111,112,101,110]:Str)))] [(5000,.var 38 S38 x0),(5141,.var 38 S38 t2.1),(5161,.var 45 S45 t2.2)] 5162 rfl c0 ?_)))
        refine run_if rfl rfl (fun h15=>?_) (fun h15=>?_)
        ·replace F0:=ift h15 F0
         obtain ⟨r5,F1,F0⟩:=obd F0
         refine sq rfl ?_
         refine run_cut (fun r5'=>r5=r5') (fun r5=>[(6,vb r5)]) (fun r5=>[]) (fun r5' h16=>?_) (fun J5_0=>?_)
         ·subst h16
          obtain rfl:=inj F0
          exact ret_pure (q:=[vb r5]) [.bool] rfl rfl (by kernel_rfl)
         obtain ⟨t4,h17,F1⟩:=obd F1
         rcases Bool.eq_false_or_eq_true (!t4) with h18|h18
         ·replace F1:=ift h18 F1
          obtain ⟨t5,h19,F1⟩:=obd F1
          rcases Bool.eq_false_or_eq_true (t5) with h20|h20
          ·replace F1:=ift h20 F1
           refine rA [(6,vb (((length t2.1.2.2.2.2.1.2:Nat):Int)==(wrap .i64 (((length x0.2.2.2.2.1.2:Nat):Int)+1))))] [] [(3,⟨[.v S38,.v (.int .u64)],vb t4,none⟩),(9,⟨[.v S38,.v (.int .u64)],vb t5,none⟩)] [(5,true),(11,true)] 5162 rfl (cc (W_congresslaw23_held h17) (cc h18 (cc (W_congresslaw23_held h19) (cc h20 c0)))) ?_
           exact J5_0 _ (inj F1).symm
          ·replace F1:=ifn h20 F1
           refine rA [(6,vb false)] [] [(3,⟨[.v S38,.v (.int .u64)],vb t4,none⟩),(9,⟨[.v S38,.v (.int .u64)],vb t5,none⟩)] [(5,true),(11,false)] 5162 rfl (cc (W_congresslaw23_held h17) (cc h18 (cc (W_congresslaw23_held h19) (cc h20 c0)))) ?_
           exact J5_0 _ (inj F1).symm
         ·replace F1:=ifn h18 F1
          refine rA [(6,vb false)] [] [(3,⟨[.v S38,.v (.int .u64)],vb t4,none⟩)] [(5,false)] 5162 rfl (cc (W_congresslaw23_held h17) (cc h18 c0)) ?_
          exact J5_0 _ (inj F1).symm
        ·replace F0:=ifn h15 F0
         obtain ⟨r6,hl6,F0⟩:=obd F0
         refine sk rfl (sq rfl (sq rfl (rB [(3,.ptr 5000 [] 0),(8,.ptr 5161 [] 0),(10,vi 0)] [(5000,.var 38 S38 x0),(5161,.var 45 S45 t2.2)] 5162 rfl c0 (bk rfl ?_))))
         refine run_cutx 0 rfl (fun j61=>r6=Sum.inr j61) (fun j61=>[]) (fun j61=>[]) (fun j61 h21=>?_) (fun J6_1=>?_)
         ·subst h21
          replace F0:=sumR F0
          refine sq rfl (rB [(6,vb false)] [] 5000 rfl c0 ?_)
          obtain rfl:=inj F0
          exact ret_pure (q:=[vb false]) [.bool] rfl rfl (by kernel_rfl)
         refine run_loop rfl (run_loopO hl6 (fun s6=>[(3,.ptr 5000 [] 0),(8,.ptr 5161 [] 0),(10,vi s6)]) (fun s6=>[(5000,.var 38 S38 x0),(5161,.var 45 S45 t2.2)]) rfl rfl (fun s6 o6 F1 ih6 hr6=>?_))
         unfold F_congresslaw23_LaneRights_b6 at F1
         refine run_again (sq rfl (sq rfl (rB [(3,.ptr 5000 [] 0),(8,.ptr 5161 [] 0),(10,vi s6),(119,vb (decide (s6<((length x0.2.2.2.2.2.1:Nat):Int))))] [(5000,.var 38 S38 x0),(5161,.var 45 S45 t2.2)] 5162 rfl c0 ?_)))
         refine run_if rfl rfl (fun h22=>?_) (fun h22=>?_)
         ·replace F1:=ift h22 F1
          obtain ⟨h23,F1⟩:=ifg F1
          obtain ⟨r7,F2,F1⟩:=obd F1
          refine sk rfl (sq rfl (bk rfl (sq rfl (rB [(3,.ptr 5000 [] 0),(8,.ptr 5161 [] 0),(10,vi s6),(11,.ptr 5262 [] 0)] [(5000,.var 38 S38 x0),(5161,.var 45 S45 t2.2),(5262,.var 56 S56 (getD x0.2.2.2.2.2.1 (toNat s6) S56.dflt))] 5162 rfl (cc h23 c0) (sq rfl ?_)))))
          refine run_cut (fun r7'=>r7=r7') (fun r7=>[(3,.ptr 5000 [] 0),(8,.ptr 5161 [] 0),(10,vi s6),(136,vb r7)]) (fun r7=>[(5000,.var 38 S38 x0),(5161,.var 45 S45 t2.2)]) (fun r7' h24=>?_) (fun J7_0=>?_)
          ·subst h24
           refine run_if rfl rfl (fun h25=>?_) (fun h25=>?_)
           ·replace F1:=ift h25 F1
            refine sq rfl (rB [(6,vb true)] [] 5162 rfl c0 ?_)
            have e6:=inrI hr6 F1
            subst e6
            replace F0:=sumL F0
            obtain rfl:=inj F0
            exact ret_pure (q:=[vb true]) [.bool] rfl rfl (by kernel_rfl)
           ·replace F1:=ifn h25 F1
            refine sk rfl (eb (rB [(3,.ptr 5000 [] 0),(8,.ptr 5161 [] 0),(10,vi (wrap .i64 (s6+1)))] [(5000,.var 38 S38 x0),(5161,.var 45 S45 t2.2)] 5162 rfl c0 ?_))
            exact ih6 _ (inj F1).symm
          rcases Bool.eq_false_or_eq_true ((getD x0.2.2.2.2.2.1 (toNat s6) S56.dflt).2.1==t2.2.1) with h26|h26
          ·replace F2:=ift h26 F2
           refine rA [(3,.ptr 5000 [] 0),(8,.ptr 5161 [] 0),(10,vi s6),(136,vb (!((getD x0.2.2.2.2.2.1 (toNat s6) S56.dflt).2.2.2)))] [(5000,.var 38 S38 x0),(5161,.var 45 S45 t2.2)] [] [(5,true)] 5263 rfl (cc h26 c0) ?_
           exact J7_0 _ (inj F2).symm
          ·replace F2:=ifn h26 F2
           refine rA [(3,.ptr 5000 [] 0),(8,.ptr 5161 [] 0),(10,vi s6),(136,vb false)] [(5000,.var 38 S38 x0),(5161,.var 45 S45 t2.2)] [] [(5,false)] 5263 rfl (cc h26 c0) ?_
           exact J7_0 _ (inj F2).symm
         ·replace F1:=ifn h22 F1
          refine run_exit rfl rfl (tm (ρ':=[]) (H':=[]) (by kernel_rfl) (by kernel_rfl) rfl ?_)
          exact J6_1 _ (inrI hr6 F1).symm
     rcases Bool.eq_false_or_eq_true (!((getD t2.1.2.2.2.2.2.2.2.2.2.2.2.2.2.2.2 (toNat ((length x0.2.2.2.2.2.2.2.2.2.2.2.2.2.2.2:Nat):Int)) S53.dflt).2.2.1==x2)) with h27|h27
     ·replace F1:=ift h27 F1
      refine rA [(2,vs x2),(3,.ptr 5000 [] 0),(7,.ptr 5141 [] 0),(8,.ptr 5161 [] 0),(69,vb true)] [(5000,.var 38 S38 x0),(5141,.var 38 S38 t2.1),(5161,.var 45 S45 t2.2)] [] [(4,true)] 5303 rfl (cc h27 c0) ?_
      exact J3_0 _ (inj F1).symm
     ·replace F1:=ifn h27 F1
      rcases Bool.eq_false_or_eq_true ((getD t2.1.2.2.2.2.2.2.2.2.2.2.2.2.2.2.2 (toNat ((length x0.2.2.2.2.2.2.2.2.2.2.2.2.2.2.2:Nat):Int)) S53.dflt).2.2.2 != t2.2.2.2.1) with h28|h28
      ·replace F1:=ift h28 F1
       refine rA [(2,vs x2),(3,.ptr 5000 [] 0),(7,.ptr 5141 [] 0),(8,.ptr 5161 [] 0),(69,vb true)] [(5000,.var 38 S38 x0),(5141,.var 38 S38 t2.1),(5161,.var 45 S45 t2.2)] [] [(4,false),(11,true)] 5303 rfl (cc h27 (cc h28 c0)) ?_
       exact J3_0 _ (inj F1).symm
      ·replace F1:=ifn h28 F1
       refine rA [(2,vs x2),(3,.ptr 5000 [] 0),(7,.ptr 5141 [] 0),(8,.ptr 5161 [] 0),(69,vb (t2.2.2.1 != 0))] [(5000,.var 38 S38 x0),(5141,.var 38 S38 t2.1),(5161,.var 45 S45 t2.2)] [] [(4,false),(11,false)] 5303 rfl (cc h27 (cc h28 c0)) ?_
       exact J3_0 _ (inj F1).symm
   rcases Bool.eq_false_or_eq_true (((length t2.1.2.2.2.2.2.2.2.2.2.2.2.2.2.2.2:Nat):Int) != (wrap .i64 (((length x0.2.2.2.2.2.2.2.2.2.2.2.2.2.2.2:Nat):Int)+1))) with h29|h29
   ·replace F1:=ift h29 F1
    refine rC [(2,vs x2),(3,.ptr 5000 [] 0),(7,.ptr 5141 [] 0),(8,.ptr 5161 [] 0),(46,vb true)] [(5000,.var 38 S38 x0),(5141,.var 38 S38 t2.1),(5161,.var 45 S45 t2.2)] [] [(8,true)] 5162 rfl (cc h29 c0) ?_
    exact J2_0 _ (inj F1).symm
   ·replace F1:=ifn h29 F1
    obtain ⟨h30,F1⟩:=ifg F1
    obtain ⟨t6,h31,F1⟩:=obd F1
    refine rC [(2,vs x2),(3,.ptr 5000 [] 0),(7,.ptr 5141 [] 0),(8,.ptr 5161 [] 0),(46,vb (!t6))] [(5000,.var 38 S38 x0),(5141,.var 38 S38 t2.1),(5161,.var 45 S45 t2.2)] [(17,⟨[.v (.sl S53),.v (.sl S53)],vb t6,none⟩)] [(8,false)] 5162 rfl (cc h29 (cc h30.1 (cc h30.2.1 (cc h30.2.2 (cc (W_congressref20_Same h31) c0))))) ?_
    exact J2_0 _ (inj F1).symm
 obtain ⟨t7,h32,F1⟩:=obd F1
 rcases Bool.eq_false_or_eq_true (!t7) with h33|h33
 ·replace F1:=ift h33 F1
  refine rA [(1,.v (.int .u32) x1),(2,vs x2),(3,.ptr 5000 [] 0),(18,vb true)] [(5000,.var 38 S38 x0)] [(0,⟨[],vb t7,none⟩)] [(2,true)] 5001 rfl (cc (W_congresslaw23_fixed h32) (cc h33 c0)) ?_
  exact J1_0 _ (inj F1).symm
 ·replace F1:=ifn h33 F1
  obtain ⟨t8,h34,F1⟩:=obd F1
  refine rA [(1,.v (.int .u32) x1),(2,vs x2),(3,.ptr 5000 [] 0),(18,vb (!t8))] [(5000,.var 38 S38 x0)] [(0,⟨[],vb t7,none⟩),(4,⟨[.v S38],vb t8,none⟩)] [(2,false)] 5001 rfl (cc (W_congresslaw23_fixed h32) (cc h33 (cc (W_congressref23_May h34) c0))) ?_
  exact J1_0 _ (inj F1).symm
end Go.Proofs.YtglfdihomfhmmaaGreatDoor
