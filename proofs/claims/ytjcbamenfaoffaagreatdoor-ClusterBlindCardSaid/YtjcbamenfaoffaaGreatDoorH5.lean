/- Laws of my own that the statement leans on; part H5. -/
import Derived.Test.YtjcbamenfaoffaaGreatDoorH4
set_option linter.unusedVariables false
set_option linter.unusedSimpArgs false
open List (length replicate getD drop take)
open Option.some (inj injEq)
open Int (toNat)
open Go.IntKind (wrap)
set_option maxRecDepth 100000
namespace Go.Proofs.YtjcbamenfaoffaaGreatDoor
open Go.RowKit
abbrev S190:Sh:=(.st (.prod .any (.sl (.int .u8))))
abbrev O190:Sh:=(.st (.prod .oref .ref))
noncomputable def F_strings_Builder_WriteString (x0:S190.ty) (x1:Str):Option (Int×Unit×S190.ty) :=
 (F_strings_Builder_copyCheck ((),x0.2)).bind fun t1=>(if length t1.2+length x1≤140737488355328 then (some (((length x1:Nat):Int),(),(),t1.2++byI x1)) else none)
theorem W_strings_Builder_WriteString {T0:TypeId} [BldT T0] {x0:S190.ty} {x1:Str} {y:(Int×Unit×S190.ty)} (F0:F_strings_Builder_WriteString x0 x1=some y):Mut Tryz.prog 154 2 [.ptr 0 [] 0,vs x1] [(0,.var T0 O190 (0,1)),(1,.row 5 (.int .u8) x0.2)] (.tup [vi y.1,.v .any y.2.1]) [(0,.var T0 O190 (0,1001)),(1001,.row 5 (.int .u8) y.2.2.2)]:=by
 unfold F_strings_Builder_WriteString at F0
 refine mut_of_run @Tryz.call154 @Tryz.func154 rfl rfl fun b=>?_
 refine run_renF (ρ':=[(0,.ptr 0 [] 0),(1,vs x1)]) (H':=[(1001,.row 5 (.int .u8) x0.2),(0,.var T0 O190 (0,1001))]) 1 1001 rfl (by kernel_rfl) rfl rfl (by kernel_rfl) rfl (sq rfl (rg [(0,.ptr 0 [] 0),(1,vs x1)] [(0,.var T0 O190 (0,1001)),(1001,.row 5 (.int .u8) x0.2)] [] [] 5000 rfl (by kernel_rfl) c0 (sq rfl ?_)))
 obtain ⟨t1,h1,F0⟩:=obd F0
 refine rg [(0,.ptr 0 [] 0),(1,vs x1)] [(0,.var T0 O190 (0,6021)),(6021,.row 5 (.int .u8) t1.2)] [(1,⟨[.v .unit],.tup [],some ([0,1001],[(0,.var T0 O190 (0,1001)),(1001,.row 5 (.int .u8) t1.2)])⟩)] [] 5000 rfl (by kernel_rfl) (cc (W_strings_Builder_copyCheck (T0:=T0) h1) c0) (run_renF (ρ':=[(0,.ptr 0 [] 0),(1,vs x1)]) (H':=[(1001,.row 5 (.int .u8) t1.2),(0,.var T0 O190 (0,1001))]) 6021 1001 rfl (by kernel_rfl) rfl rfl (by kernel_rfl) rfl (sq rfl ?_))
 obtain ⟨h2,F0⟩:=ifg F0
 refine rg [(1,vs x1)] [(0,.var T0 O190 (0,5120)),(5120,.row 5 (.int .u8) (t1.2++byI x1))] [] [] 5000 rfl (by kernel_rfl) (cc h2 c0) (run_renF (ρ':=[(1,vs x1)]) (H':=[(1001,.row 5 (.int .u8) (t1.2++byI x1)),(0,.var T0 O190 (0,1001))]) 5120 1001 rfl (by kernel_rfl) rfl rfl (by kernel_rfl) rfl (sq rfl (rg [(4,vi ((length x1:Nat):Int)),(5,.v .any ())] [(0,.var T0 O190 (0,1001)),(1001,.row 5 (.int .u8) (t1.2++byI x1))] [] [] 5000 rfl (by kernel_rfl) c0 ?_)))
 obtain rfl:=inj F0
 exact ret_mut (q:=[vi ((length x1:Nat):Int),.v .any ()]) [some (.int .i64),some .any] [0,1001] rfl rfl (by kernel_rfl) rfl (by kernel_rfl)
noncomputable def F_pack_wide (x0:Int):Option Bool :=
 (show Option Bool from if (decide (x0≥1))=true then some (decide (x0≤8)) else some false).bind (fun r1=>some r1)
theorem W_pack_wide {x0:Int} {y:Bool} (F0:F_pack_wide x0=some y):Pure Tryz.prog 173 [vi x0] (vb y):=by
 unfold F_pack_wide at F0
 refine pure_of_run @Tryz.call173 @Tryz.func173 rfl rfl fun w M ho=>?_
 refine sq rfl (rg [(0,vi x0)] [] [] [] 5000 rfl (by kernel_rfl) c0 (sq rfl ?_))
 obtain ⟨r1,F1,F0⟩:=obd F0
 refine run_cut (fun r1'=>r1=r1') (fun r1=>[(2,vb r1)]) (fun r1=>[]) (fun r1' h1=>?_) (fun J1_0=>?_)
 ·subst h1
  obtain rfl:=inj F0
  exact ret_pure (q:=[vb r1]) [.bool] rfl rfl (by kernel_rfl)
 rcases Bool.eq_false_or_eq_true (decide (x0≥1)) with h2|h2
 ·replace F1:=ift h2 F1
  refine rg [(2,vb (decide (x0≤8)))] [] [] [(2,true)] 5000 rfl (by kernel_rfl) (cc h2 c0) ?_
  exact J1_0 _ (inj F1).symm
 ·replace F1:=ifn h2 F1
  refine rg [(2,vb false)] [] [] [(2,false)] 5000 rfl (by kernel_rfl) (cc h2 c0) ?_
  exact J1_0 _ (inj F1).symm
noncomputable def F_pack_Fits (x0:Int) (x1:Int):Option Bool :=
 (show Option Bool from (F_pack_wide x1).bind fun t1=>(if (t1)=true then if (x1==8)=true then some true else if (0:Int)≤(wrap .i64 ((8:Int)*x1)) then (some ((Int.fdiv x0 (2^min (toNat (wrap .i64 ((8:Int)*x1))) 64))==0)) else none else some false)).bind (fun r1=>some r1)
theorem W_pack_Fits {x0:Int} {x1:Int} {y:Bool} (F0:F_pack_Fits x0 x1=some y):Pure Tryz.prog 139 [vu x0,vi x1] (vb y):=by
 unfold F_pack_Fits at F0
 refine pure_of_run @Tryz.call139 @Tryz.func139 rfl rfl fun w M ho=>?_
 refine sq rfl (rg [(0,vu x0),(1,vi x1)] [] [] [] 5000 rfl (by kernel_rfl) c0 (sq rfl ?_))
 obtain ⟨r1,F1,F0⟩:=obd F0
 refine run_cut (fun r1'=>r1=r1') (fun r1=>[(4,vb r1)]) (fun r1=>[]) (fun r1' h1=>?_) (fun J1_0=>?_)
 ·subst h1
  obtain rfl:=inj F0
  exact ret_pure (q:=[vb r1]) [.bool] rfl rfl (by kernel_rfl)
 obtain ⟨t1,h2,F1⟩:=obd F1
 rcases Bool.eq_false_or_eq_true (t1) with h3|h3
 ·replace F1:=ift h3 F1
  rcases Bool.eq_false_or_eq_true (x1==8) with h4|h4
  ·replace F1:=ift h4 F1
   refine rg [(4,vb true)] [] [(1,⟨[.v (.int .i64)],vb t1,none⟩)] [(2,true),(5,true)] 5000 rfl (by kernel_rfl) (cc (W_pack_wide h2) (cc h3 (cc h4 c0))) ?_
   exact J1_0 _ (inj F1).symm
  ·replace F1:=ifn h4 F1
   obtain ⟨h5,F1⟩:=ifg F1
   refine rg [(4,vb ((Int.fdiv x0 (2^min (toNat (wrap .i64 ((8:Int)*x1))) 64))==0))] [] [(1,⟨[.v (.int .i64)],vb t1,none⟩)] [(2,true),(5,false)] 5000 rfl (by kernel_rfl) (cc (W_pack_wide h2) (cc h3 (cc h4 (cc h5 c0)))) ?_
   exact J1_0 _ (inj F1).symm
 ·replace F1:=ifn h3 F1
  refine rg [(4,vb false)] [] [(1,⟨[.v (.int .i64)],vb t1,none⟩)] [(2,false)] 5000 rfl (by kernel_rfl) (cc (W_pack_wide h2) (cc h3 c0)) ?_
  exact J1_0 _ (inj F1).symm
noncomputable def F_entry_within (x0:Int) (x1:Int):Option Bool :=
 (show Option Bool from if (decide (x0≥0))=true then some (decide (x0<x1)) else some false).bind (fun r1=>some r1)
theorem W_entry_within {x0:Int} {x1:Int} {y:Bool} (F0:F_entry_within x0 x1=some y):Pure Tryz.prog 138 [vi x0,vi x1] (vb y):=by
 unfold F_entry_within at F0
 refine pure_of_run @Tryz.call138 @Tryz.func138 rfl rfl fun w M ho=>?_
 refine sq rfl (rg [(0,vi x0),(1,vi x1)] [] [] [] 5000 rfl (by kernel_rfl) c0 (sq rfl ?_))
 obtain ⟨r1,F1,F0⟩:=obd F0
 refine run_cut (fun r1'=>r1=r1') (fun r1=>[(4,vb r1)]) (fun r1=>[]) (fun r1' h1=>?_) (fun J1_0=>?_)
 ·subst h1
  obtain rfl:=inj F0
  exact ret_pure (q:=[vb r1]) [.bool] rfl rfl (by kernel_rfl)
 rcases Bool.eq_false_or_eq_true (decide (x0≥0)) with h2|h2
 ·replace F1:=ift h2 F1
  refine rg [(4,vb (decide (x0<x1)))] [] [] [(2,true)] 5000 rfl (by kernel_rfl) (cc h2 c0) ?_
  exact J1_0 _ (inj F1).symm
 ·replace F1:=ifn h2 F1
  refine rg [(4,vb false)] [] [] [(2,false)] 5000 rfl (by kernel_rfl) (cc h2 c0) ?_
  exact J1_0 _ (inj F1).symm
abbrev S39:Sh:=(.st (.prod (.int .i64) (.prod (.int .i64) (.prod (.int .i64) (.prod (.int .u64) (.prod (.int .u64) .str))))))
noncomputable def F_entry_Check (x0:S39.ty):Option Int :=
 if (Sh.eqb S39 x0 (0,0,0,0,0,[]))=true then some 0 else (show Option Bool from (F_entry_within x0.2.1 4).bind fun t1=>(if (t1)=true then (F_entry_within x0.2.2.1 8).bind fun t2=>(if (t2)=true then (F_pack_Fits x0.2.2.2.1 2).bind fun t3=>(if (t3)=true then (F_pack_Fits x0.2.2.2.2.1 4).bind fun t4=>(if (t4)=true then some (decide (((length x0.2.2.2.2.2:Nat):Int)≤16)) else some false) else some false) else some false) else some false)).bind (fun r1=>if (!r1)=true then some 30 else if (x0.1==1)=true then some 0 else (show Option Bool from if (x0.1==2)=true then if (x0.2.1==2)=true then some (x0.2.2.2.2.2==[]) else some false else if (x0.1==3)=true then if (x0.2.1==2)=true then some (x0.2.2.2.2.2==[]) else some false else some false).bind (fun r2=>if (r2)=true then some 0 else some 30))
theorem W_entry_Check {x0:S39.ty} {y:Int} (F0:F_entry_Check x0=some y):Pure Tryz.prog 108 [.v S39 x0] (vi y):=by
 unfold F_entry_Check at F0
 refine pure_of_run @Tryz.call108 @Tryz.func108 rfl rfl fun w M ho=>?_
 refine sq rfl (rg [(1,.ptr 5000 [] 0)] [(5000,.var 39 S39 x0)] [] [] 5000 rfl (by kernel_rfl) c0 (sq rfl (sq rfl (rg [(1,.ptr 5000 [] 0),(6,vb (Sh.eqb S39 x0 (0,0,0,0,0,[])))] [(5000,.var 39 S39 x0)] [] [] 5001 rfl (by kernel_rfl) c0 ?_))))
 refine run_if rfl rfl (fun h1=>?_) (fun h1=>?_)
 ·replace F0:=ift h1 F0
  refine sq rfl (rg [(2,vi 0)] [] [] [] 5001 rfl (by kernel_rfl) c0 ?_)
  obtain rfl:=inj F0
  exact ret_pure (q:=[vi 0]) [(.int .i64)] rfl rfl (by kernel_rfl)
 ·replace F0:=ifn h1 F0
  refine sk rfl (sq rfl ?_)
  obtain ⟨r1,F1,F0⟩:=obd F0
  refine run_cut (fun r1'=>r1=r1') (fun r1=>[(1,.ptr 5000 [] 0),(3,vb r1)]) (fun r1=>[(5000,.var 39 S39 x0)]) (fun r1' h2=>?_) (fun J1_0=>?_)
  ·subst h2
   refine sq rfl (bk rfl (sq rfl (rg [(1,.ptr 5000 [] 0),(31,vb (!r1))] [(5000,.var 39 S39 x0)] [] [] 5001 rfl (by kernel_rfl) c0 ?_)))
   refine run_if rfl rfl (fun h3=>?_) (fun h3=>?_)
   ·replace F0:=ift h3 F0
    refine sq rfl (rg [(2,vi 30)] [] [] [] 5001 rfl (by kernel_rfl) c0 ?_)
    obtain rfl:=inj F0
    exact ret_pure (q:=[vi 30]) [(.int .i64)] rfl rfl (by kernel_rfl)
   ·replace F0:=ifn h3 F0
    refine sq rfl (rg [(1,.ptr 5000 [] 0),(34,vb (x0.1==1))] [(5000,.var 39 S39 x0)] [] [] 5001 rfl (by kernel_rfl) c0 ?_)
    refine run_if rfl rfl (fun h4=>?_) (fun h4=>?_)
    ·replace F0:=ift h4 F0
     refine sq rfl (rg [(2,vi 0)] [] [] [] 5001 rfl (by kernel_rfl) c0 ?_)
     obtain rfl:=inj F0
     exact ret_pure (q:=[vi 0]) [(.int .i64)] rfl rfl (by kernel_rfl)
    ·replace F0:=ifn h4 F0
     refine sq rfl ?_
     obtain ⟨r2,F1,F0⟩:=obd F0
     refine run_cut (fun r2'=>r2=r2') (fun r2=>[(38,vb r2)]) (fun r2=>[]) (fun r2' h5=>?_) (fun J2_0=>?_)
     ·subst h5
      refine run_if rfl rfl (fun h6=>?_) (fun h6=>?_)
      ·replace F0:=ift h6 F0
       refine sq rfl (rg [(2,vi 0)] [] [] [] 5000 rfl (by kernel_rfl) c0 ?_)
       obtain rfl:=inj F0
       exact ret_pure (q:=[vi 0]) [(.int .i64)] rfl rfl (by kernel_rfl)
      ·replace F0:=ifn h6 F0
       refine sk rfl (eb (sq rfl (rg [(2,vi 30)] [] [] [] 5000 rfl (by kernel_rfl) c0 ?_)))
       obtain rfl:=inj F0
       exact ret_pure (q:=[vi 30]) [(.int .i64)] rfl rfl (by kernel_rfl)
     rcases Bool.eq_false_or_eq_true (x0.1==2) with h7|h7
     ·replace F1:=ift h7 F1
      rcases Bool.eq_false_or_eq_true (x0.2.1==2) with h8|h8
      ·replace F1:=ift h8 F1
       refine rg [(38,vb (x0.2.2.2.2.2==[]))] [] [] [(3,true),(13,true)] 5001 rfl (by kernel_rfl) (cc h7 (cc h8 c0)) ?_
       exact J2_0 _ (inj F1).symm
      ·replace F1:=ifn h8 F1
       refine rg [(38,vb false)] [] [] [(3,true),(13,false)] 5001 rfl (by kernel_rfl) (cc h7 (cc h8 c0)) ?_
       exact J2_0 _ (inj F1).symm
     ·replace F1:=ifn h7 F1
      rcases Bool.eq_false_or_eq_true (x0.1==3) with h9|h9
      ·replace F1:=ift h9 F1
       rcases Bool.eq_false_or_eq_true (x0.2.1==2) with h10|h10
       ·replace F1:=ift h10 F1
        refine rg [(38,vb (x0.2.2.2.2.2==[]))] [] [] [(3,false),(8,true),(13,true)] 5001 rfl (by kernel_rfl) (cc h7 (cc h9 (cc h10 c0))) ?_
        exact J2_0 _ (inj F1).symm
       ·replace F1:=ifn h10 F1
        refine rg [(38,vb false)] [] [] [(3,false),(8,true),(13,false)] 5001 rfl (by kernel_rfl) (cc h7 (cc h9 (cc h10 c0))) ?_
        exact J2_0 _ (inj F1).symm
      ·replace F1:=ifn h9 F1
       refine rg [(38,vb false)] [] [] [(3,false),(8,false)] 5001 rfl (by kernel_rfl) (cc h7 (cc h9 c0)) ?_
       exact J2_0 _ (inj F1).symm
  obtain ⟨t1,h11,F1⟩:=obd F1
  rcases Bool.eq_false_or_eq_true (t1) with h12|h12
  ·replace F1:=ift h12 F1
   obtain ⟨t2,h13,F1⟩:=obd F1
   rcases Bool.eq_false_or_eq_true (t2) with h14|h14
   ·replace F1:=ift h14 F1
    obtain ⟨t3,h15,F1⟩:=obd F1
    rcases Bool.eq_false_or_eq_true (t3) with h16|h16
    ·replace F1:=ift h16 F1
     obtain ⟨t4,h17,F1⟩:=obd F1
     rcases Bool.eq_false_or_eq_true (t4) with h18|h18
     ·replace F1:=ift h18 F1
      refine rg [(1,.ptr 5000 [] 0),(3,vb (decide (((length x0.2.2.2.2.2:Nat):Int)≤16)))] [(5000,.var 39 S39 x0)] [(2,⟨[.v (.int .i64),.v (.int .i64)],vb t1,none⟩),(6,⟨[.v (.int .i64),.v (.int .i64)],vb t2,none⟩),(11,⟨[.v (.int .u64),.v (.int .i64)],vb t3,none⟩),(16,⟨[.v (.int .u64),.v (.int .i64)],vb t4,none⟩)] [(3,true),(8,true),(13,true),(18,true)] 5001 rfl (by kernel_rfl) (cc (W_entry_within h11) (cc h12 (cc (W_entry_within h13) (cc h14 (cc (W_pack_Fits h15) (cc h16 (cc (W_pack_Fits h17) (cc h18 c0)))))))) ?_
      exact J1_0 _ (inj F1).symm
     ·replace F1:=ifn h18 F1
      refine rg [(1,.ptr 5000 [] 0),(3,vb false)] [(5000,.var 39 S39 x0)] [(2,⟨[.v (.int .i64),.v (.int .i64)],vb t1,none⟩),(6,⟨[.v (.int .i64),.v (.int .i64)],vb t2,none⟩),(11,⟨[.v (.int .u64),.v (.int .i64)],vb t3,none⟩),(16,⟨[.v (.int .u64),.v (.int .i64)],vb t4,none⟩)] [(3,true),(8,true),(13,true),(18,false)] 5001 rfl (by kernel_rfl) (cc (W_entry_within h11) (cc h12 (cc (W_entry_within h13) (cc h14 (cc (W_pack_Fits h15) (cc h16 (cc (W_pack_Fits h17) (cc h18 c0)))))))) ?_
      exact J1_0 _ (inj F1).symm
    ·replace F1:=ifn h16 F1
     refine rg [(1,.ptr 5000 [] 0),(3,vb false)] [(5000,.var 39 S39 x0)] [(2,⟨[.v (.int .i64),.v (.int .i64)],vb t1,none⟩),(6,⟨[.v (.int .i64),.v (.int .i64)],vb t2,none⟩),(11,⟨[.v (.int .u64),.v (.int .i64)],vb t3,none⟩)] [(3,true),(8,true),(13,false)] 5001 rfl (by kernel_rfl) (cc (W_entry_within h11) (cc h12 (cc (W_entry_within h13) (cc h14 (cc (W_pack_Fits h15) (cc h16 c0)))))) ?_
     exact J1_0 _ (inj F1).symm
   ·replace F1:=ifn h14 F1
    refine rg [(1,.ptr 5000 [] 0),(3,vb false)] [(5000,.var 39 S39 x0)] [(2,⟨[.v (.int .i64),.v (.int .i64)],vb t1,none⟩),(6,⟨[.v (.int .i64),.v (.int .i64)],vb t2,none⟩)] [(3,true),(8,false)] 5001 rfl (by kernel_rfl) (cc (W_entry_within h11) (cc h12 (cc (W_entry_within h13) (cc h14 c0)))) ?_
    exact J1_0 _ (inj F1).symm
  ·replace F1:=ifn h12 F1
   refine rg [(1,.ptr 5000 [] 0),(3,vb false)] [(5000,.var 39 S39 x0)] [(2,⟨[.v (.int .i64),.v (.int .i64)],vb t1,none⟩)] [(3,false)] 5001 rfl (by kernel_rfl) (cc (W_entry_within h11) (cc h12 c0)) ?_
   exact J1_0 _ (inj F1).symm
noncomputable def F_entry_Encode (x0:S39.ty):Option (Str×Int) :=
 (F_entry_Check x0).bind fun t1=>(if (t1 != 0)=true then some ([],t1) else (F_pack_PutText x0.2.2.2.2.2 16).bind fun t2=>((F_pack_Put (wrap .u64 x0.1) 1).bind fun t3=>((F_pack_Put (wrap .u64 x0.2.1) 1).bind fun t4=>(if length t3+length t4≤maxLen then (F_pack_Put (wrap .u64 x0.2.2.1) 1).bind fun t5=>(if length (t3++t4)+length t5≤maxLen then (F_pack_Put x0.2.2.2.1 2).bind fun t6=>(if length ((t3++t4)++t5)+length t6≤maxLen then (F_pack_Put x0.2.2.2.2.1 4).bind fun t7=>(if length (((t3++t4)++t5)++t6)+length t7≤maxLen then (if length ((((t3++t4)++t5)++t6)++t7)+length t2.1≤maxLen then (if length (((((t3++t4)++t5)++t6)++t7)++t2.1)+length ([0,0]:Str)≤maxLen then (some ((((((t3++t4)++t5)++t6)++t7)++t2.1)++([0,0]:Str),0)) else none) else none) else none) else none) else none) else none))))
theorem W_entry_Encode {x0:S39.ty} {y:(Str×Int)} (F0:F_entry_Encode x0=some y):Pure Tryz.prog 187 [.v S39 x0] (.tup [vs y.1,vi y.2]):=by
 unfold F_entry_Encode at F0
 refine pure_of_run @Tryz.call187 @Tryz.func187 rfl rfl fun w M ho=>?_
 refine sq rfl (rg [(1,.ptr 5000 [] 0)] [(5000,.var 39 S39 x0)] [] [] 5000 rfl (by kernel_rfl) c0 (sq rfl (sq rfl ?_)))
 obtain ⟨t1,h1,F0⟩:=obd F0
 refine rg [(1,.ptr 5000 [] 0),(4,vi t1)] [(5000,.var 39 S39 x0)] [(1,⟨[.v S39],vi t1,none⟩)] [] 5001 rfl (by kernel_rfl) (cc (W_entry_Check h1) c0) (sq rfl (rg [(1,.ptr 5000 [] 0),(4,vi t1),(10,vb (t1 != 0))] [(5000,.var 39 S39 x0)] [] [] 5001 rfl (by kernel_rfl) c0 ?_))
 refine run_if rfl rfl (fun h2=>?_) (fun h2=>?_)
 ·replace F0:=ift h2 F0
  refine sq rfl (rg [(2,vs []),(3,vi t1)] [] [] [] 5001 rfl (by kernel_rfl) c0 ?_)
  obtain rfl:=inj F0
  exact ret_pure (q:=[vs [],vi t1]) [.str,(.int .i64)] rfl rfl (by kernel_rfl)
 ·replace F0:=ifn h2 F0
  refine sk rfl (sq rfl ?_)
  obtain ⟨t2,h3,F0⟩:=obd F0
  refine rg [(1,.ptr 5000 [] 0),(5,vs t2.1)] [(5000,.var 39 S39 x0)] [(2,⟨[.v .str,.v (.int .i64)],.tup [vs t2.1,vb t2.2],none⟩)] [] 5001 rfl (by kernel_rfl) (cc (W_pack_PutText h3) c0) (sq rfl ?_)
  obtain ⟨t3,h4,F0⟩:=obd F0
  obtain ⟨t4,h5,F0⟩:=obd F0
  obtain ⟨h6,F0⟩:=ifg F0
  obtain ⟨t5,h7,F0⟩:=obd F0
  obtain ⟨h8,F0⟩:=ifg F0
  obtain ⟨t6,h9,F0⟩:=obd F0
  obtain ⟨h10,F0⟩:=ifg F0
  obtain ⟨t7,h11,F0⟩:=obd F0
  obtain ⟨h12,F0⟩:=ifg F0
  obtain ⟨h13,F0⟩:=ifg F0
  obtain ⟨h14,F0⟩:=ifg F0
  refine rG [(2,vs ((((((t3++t4)++t5)++t6)++t7)++t2.1)++([0,0]:Str))),(3,vi 0)] [] [(3,⟨[.v (.int .u64),.v (.int .i64)],vs t3,none⟩),(7,⟨[.v (.int .u64),.v (.int .i64)],vs t4,none⟩),(12,⟨[.v (.int .u64),.v (.int .i64)],vs t5,none⟩),(16,⟨[.v (.int .u64),.v (.int .i64)],vs t6,none⟩),(20,⟨[.v (.int .u64),.v (.int .i64)],vs t7,none⟩)] [] 5001 rfl rfl (by kernel_rfl) (cc (W_pack_Put h4) (cc (W_pack_Put h5) (cc h6 (cc (W_pack_Put h7) (cc h8 (cc (W_pack_Put h9) (cc h10 (cc (W_pack_Put h11) (cc h12 (cc h13 (cc h14 c0))))))))))) ?_
  obtain rfl:=inj F0
  exact ret_pure (q:=[vs ((((((t3++t4)++t5)++t6)++t7)++t2.1)++([0,0]:Str)),vi 0]) [.str,(.int .i64)] rfl rfl (by kernel_rfl)
noncomputable def F_entry_Decode_b1 (s1:(Str×Int×(List Int))):Option ((Str×Int×(List Int))⊕(Str×(List Int))) :=
 if (decide (s1.2.1<5))=true then if 0≤s1.2.1∧s1.2.1<((5:Nat):Int) then (F_pack_Take s1.1 (getD (List.set (List.set (List.set (List.set (List.set (replicate 5 0) 0 1) 1 1) 2 1) 3 2) 4 4) (toNat s1.2.1) 0)).bind fun t3=>(if 0≤s1.2.1∧s1.2.1<((5:Nat):Int) then (some (Sum.inl (t3.2.1,wrap .i64 (s1.2.1+1),List.set s1.2.2 (toNat s1.2.1) t3.1))) else none) else none else some (Sum.inr (s1.1,s1.2.2))
noncomputable def F_entry_Decode (x0:Str):Option (S39.ty×Int) :=
 if (((length x0:Nat):Int) != 28)=true then some ((0,0,0,0,0,[]),30) else (loopO (F_entry_Decode_b1) (x0,0,replicate 5 0)).bind (fun r1=>(F_pack_TakeText r1.1 16).bind fun t1=>((F_entry_Encode (wrap .i64 (getD r1.2 (toNat 0) 0),wrap .i64 (getD r1.2 (toNat 1) 0),wrap .i64 (getD r1.2 (toNat 2) 0),getD r1.2 (toNat 3) 0,getD r1.2 (toNat 4) 0,t1.1)).bind fun t2=>((show Option Bool from if (!t1.2.2)=true then some true else if (t2.2 != 0)=true then some true else some (!(t2.1==x0))).bind (fun r2=>if (r2)=true then some ((0,0,0,0,0,[]),30) else some ((wrap .i64 (getD r1.2 (toNat 0) 0),wrap .i64 (getD r1.2 (toNat 1) 0),wrap .i64 (getD r1.2 (toNat 2) 0),getD r1.2 (toNat 3) 0,getD r1.2 (toNat 4) 0,t1.1),0)))))
theorem W_entry_Decode {x0:Str} {y:(S39.ty×Int)} (F0:F_entry_Decode x0=some y):Pure Tryz.prog 197 [vs x0] (.tup [.v S39 y.1,vi y.2]):=by
 unfold F_entry_Decode at F0
 refine pure_of_run @Tryz.call197 @Tryz.func197 rfl rfl fun w M ho=>?_
 refine sq rfl (rg [(0,vs x0),(2,.ptr 5000 [] 0)] [(5000,.var 39 S39 (0,0,0,0,0,[]))] [] [] 5000 rfl (by kernel_rfl) c0 (sq rfl (sq rfl (rg [(0,vs x0),(2,.ptr 5000 [] 0),(16,vb (((length x0:Nat):Int) != 28))] [(5000,.var 39 S39 (0,0,0,0,0,[]))] [] [] 5001 rfl (by kernel_rfl) c0 ?_))))
 refine run_if rfl rfl (fun h1=>?_) (fun h1=>?_)
 ·replace F0:=ift h1 F0
  refine sq rfl (rg [(2,.ptr 5000 [] 0),(3,vi 30)] [(5000,.var 39 S39 (0,0,0,0,0,[]))] [] [] 5001 rfl (by kernel_rfl) c0 ?_)
  obtain rfl:=inj F0
  exact ret_pure (q:=[.v S39 (0,0,0,0,0,[]),vi 30]) [S39,(.int .i64)] rfl rfl (by kernel_rfl)
 ·replace F0:=ifn h1 F0
  refine sk rfl (sq rfl (rg [(0,vs x0),(2,.ptr 5000 [] 0),(4,.ptr 5001 [] 0)] [(5000,.var 39 S39 (0,0,0,0,0,[])),(5001,.var 258 (.arr 5 (.int .u64)) (replicate 5 0))] [] [] 5001 rfl (by kernel_rfl) c0 (sq rfl (rg [(0,vs x0),(2,.ptr 5000 [] 0),(4,.ptr 5001 [] 0),(5,vs x0)] [(5000,.var 39 S39 (0,0,0,0,0,[])),(5001,.var 258 (.arr 5 (.int .u64)) (replicate 5 0))] [] [] 5002 rfl (by kernel_rfl) c0 (sq rfl (sq rfl (rg [(0,vs x0),(2,.ptr 5000 [] 0),(4,.ptr 5001 [] 0),(5,vs x0),(19,.v (.arr 5 (.int .i64)) (List.set (List.set (List.set (List.set (List.set (replicate 5 0) 0 1) 1 1) 2 1) 3 2) 4 4)),(20,vi 0)] [(5000,.var 39 S39 (0,0,0,0,0,[])),(5001,.var 258 (.arr 5 (.int .u64)) (replicate 5 0))] [] [] 5002 rfl (by kernel_rfl) c0 (bk rfl ?_))))))))
  obtain ⟨r1,hl1,F0⟩:=obd F0
  refine run_cutx 0 rfl (fun r1'=>r1=r1') (fun r1=>[(0,vs x0),(2,.ptr 5000 [] 0),(4,.ptr 5001 [] 0),(5,vs r1.1)]) (fun r1=>[(5000,.var 39 S39 (0,0,0,0,0,[])),(5001,.var 258 (.arr 5 (.int .u64)) r1.2)]) (fun r1' h2=>?_) (fun J1_0=>?_)
  ·subst h2
   refine sq rfl ?_
   obtain ⟨t1,h3,F0⟩:=obd F0
   refine rg [(0,vs x0),(2,.ptr 5000 [] 0),(4,.ptr 5001 [] 0),(8,vs t1.1),(10,vb t1.2.2)] [(5000,.var 39 S39 (0,0,0,0,0,[])),(5001,.var 258 (.arr 5 (.int .u64)) r1.2)] [(1,⟨[.v .str,.v (.int .i64)],.tup [vs t1.1,vs t1.2.1,vb t1.2.2],none⟩)] [] 5002 rfl (by kernel_rfl) (cc (W_pack_TakeText h3) c0) (sq rfl (rg [(0,vs x0),(2,.ptr 5000 [] 0),(10,vb t1.2.2),(11,.ptr 5302 [] 0)] [(5000,.var 39 S39 (0,0,0,0,0,[])),(5302,.var 39 S39 (wrap .i64 (getD r1.2 (toNat 0) 0),wrap .i64 (getD r1.2 (toNat 1) 0),wrap .i64 (getD r1.2 (toNat 2) 0),getD r1.2 (toNat 3) 0,getD r1.2 (toNat 4) 0,t1.1))] [] [] 5002 rfl (by kernel_rfl) (cc (show 0≤(0:Int)∧(0:Int)<((5:Nat):Int) from (by decide)) (cc (show offP (.arr 5 (.int .u64)) [.i (toNat 0)]=(0+toNat 0*1) from offJ (p:=[]) (q:=[]) rfl (by kernel_rfl) (by kernel_rfl) (by kernel_rfl)) (cc (show okP (.arr 5 (.int .u64)) r1.2 [.i (toNat 0)] from ⟨okI (by decide),trivial⟩) (cc (show 0≤(1:Int)∧(1:Int)<((5:Nat):Int) from (by decide)) (cc (show offP (.arr 5 (.int .u64)) [.i (toNat 1)]=(0+toNat 1*1) from offJ (p:=[]) (q:=[]) rfl (by kernel_rfl) (by kernel_rfl) (by kernel_rfl)) (cc (show okP (.arr 5 (.int .u64)) r1.2 [.i (toNat 1)] from ⟨okI (by decide),trivial⟩) (cc (show 0≤(2:Int)∧(2:Int)<((5:Nat):Int) from (by decide)) (cc (show offP (.arr 5 (.int .u64)) [.i (toNat 2)]=(0+toNat 2*1) from offJ (p:=[]) (q:=[]) rfl (by kernel_rfl) (by kernel_rfl) (by kernel_rfl)) (cc (show okP (.arr 5 (.int .u64)) r1.2 [.i (toNat 2)] from ⟨okI (by decide),trivial⟩) (cc (show 0≤(3:Int)∧(3:Int)<((5:Nat):Int) from (by decide)) (cc (show offP (.arr 5 (.int .u64)) [.i (toNat 3)]=(0+toNat 3*1) from offJ (p:=[]) (q:=[]) rfl (by kernel_rfl) (by kernel_rfl) (by kernel_rfl)) (cc (show okP (.arr 5 (.int .u64)) r1.2 [.i (toNat 3)] from ⟨okI (by decide),trivial⟩) (cc (show 0≤(4:Int)∧(4:Int)<((5:Nat):Int) from (by decide)) (cc (show offP (.arr 5 (.int .u64)) [.i (toNat 4)]=(0+toNat 4*1) from offJ (p:=[]) (q:=[]) rfl (by kernel_rfl) (by kernel_rfl) (by kernel_rfl)) (cc (show okP (.arr 5 (.int .u64)) r1.2 [.i (toNat 4)] from ⟨okI (by decide),trivial⟩) c0))))))))))))))) (sq rfl (sq rfl ?_))))
   obtain ⟨t2,h4,F0⟩:=obd F0
   refine rg [(0,vs x0),(2,.ptr 5000 [] 0),(10,vb t1.2.2),(11,.ptr 5302 [] 0),(12,vs t2.1),(13,vi t2.2)] [(5000,.var 39 S39 (0,0,0,0,0,[])),(5302,.var 39 S39 (wrap .i64 (getD r1.2 (toNat 0) 0),wrap .i64 (getD r1.2 (toNat 1) 0),wrap .i64 (getD r1.2 (toNat 2) 0),getD r1.2 (toNat 3) 0,getD r1.2 (toNat 4) 0,t1.1))] [(1,⟨[.v S39],.tup [vs t2.1,vi t2.2],none⟩)] [] 5303 rfl (by kernel_rfl) (cc (W_entry_Encode h4) c0) (sq rfl ?_)
   obtain ⟨r2,F1,F0⟩:=obd F0
   refine run_cut (fun r2'=>r2=r2') (fun r2=>[(2,.ptr 5000 [] 0),(11,.ptr 5302 [] 0),(70,vb r2)]) (fun r2=>[(5000,.var 39 S39 (0,0,0,0,0,[])),(5302,.var 39 S39 (wrap .i64 (getD r1.2 (toNat 0) 0),wrap .i64 (getD r1.2 (toNat 1) 0),wrap .i64 (getD r1.2 (toNat 2) 0),getD r1.2 (toNat 3) 0,getD r1.2 (toNat 4) 0,t1.1))]) (fun r2' h5=>?_) (fun J2_0=>?_)
   ·subst h5
    refine run_if rfl rfl (fun h6=>?_) (fun h6=>?_)
    ·replace F0:=ift h6 F0
     refine sq rfl (rg [(2,.ptr 5000 [] 0),(3,vi 30)] [(5000,.var 39 S39 (0,0,0,0,0,[]))] [] [] 5303 rfl (by kernel_rfl) c0 ?_)
     obtain rfl:=inj F0
     exact ret_pure (q:=[.v S39 (0,0,0,0,0,[]),vi 30]) [S39,(.int .i64)] rfl rfl (by kernel_rfl)
    ·replace F0:=ifn h6 F0
     refine sk rfl (sq rfl (rg [(2,.ptr 5000 [] 0),(3,vi 0)] [(5000,.var 39 S39 (wrap .i64 (getD r1.2 (toNat 0) 0),wrap .i64 (getD r1.2 (toNat 1) 0),wrap .i64 (getD r1.2 (toNat 2) 0),getD r1.2 (toNat 3) 0,getD r1.2 (toNat 4) 0,t1.1))] [] [] 5303 rfl (by kernel_rfl) c0 ?_))
     obtain rfl:=inj F0
     exact ret_pure (q:=[.v S39 (wrap .i64 (getD r1.2 (toNat 0) 0),wrap .i64 (getD r1.2 (toNat 1) 0),wrap .i64 (getD r1.2 (toNat 2) 0),getD r1.2 (toNat 3) 0,getD r1.2 (toNat 4) 0,t1.1),vi 0]) [S39,(.int .i64)] rfl rfl (by kernel_rfl)
   rcases Bool.eq_false_or_eq_true (!t1.2.2) with h7|h7
   ·replace F1:=ift h7 F1
    refine rg [(2,.ptr 5000 [] 0),(11,.ptr 5302 [] 0),(70,vb true)] [(5000,.var 39 S39 (0,0,0,0,0,[])),(5302,.var 39 S39 (wrap .i64 (getD r1.2 (toNat 0) 0),wrap .i64 (getD r1.2 (toNat 1) 0),wrap .i64 (getD r1.2 (toNat 2) 0),getD r1.2 (toNat 3) 0,getD r1.2 (toNat 4) 0,t1.1))] [] [(2,true)] 5303 rfl (by kernel_rfl) (cc h7 c0) ?_
    exact J2_0 _ (inj F1).symm
   ·replace F1:=ifn h7 F1
    rcases Bool.eq_false_or_eq_true (t2.2 != 0) with h8|h8
    ·replace F1:=ift h8 F1
     refine rg [(2,.ptr 5000 [] 0),(11,.ptr 5302 [] 0),(70,vb true)] [(5000,.var 39 S39 (0,0,0,0,0,[])),(5302,.var 39 S39 (wrap .i64 (getD r1.2 (toNat 0) 0),wrap .i64 (getD r1.2 (toNat 1) 0),wrap .i64 (getD r1.2 (toNat 2) 0),getD r1.2 (toNat 3) 0,getD r1.2 (toNat 4) 0,t1.1))] [] [(2,false),(6,true)] 5303 rfl (by kernel_rfl) (cc h7 (cc h8 c0)) ?_
     exact J2_0 _ (inj F1).symm
    ·replace F1:=ifn h8 F1
     refine rg [(2,.ptr 5000 [] 0),(11,.ptr 5302 [] 0),(70,vb (!(t2.1==x0)))] [(5000,.var 39 S39 (0,0,0,0,0,[])),(5302,.var 39 S39 (wrap .i64 (getD r1.2 (toNat 0) 0),wrap .i64 (getD r1.2 (toNat 1) 0),wrap .i64 (getD r1.2 (toNat 2) 0),getD r1.2 (toNat 3) 0,getD r1.2 (toNat 4) 0,t1.1))] [] [(2,false),(6,false)] 5303 rfl (by kernel_rfl) (cc h7 (cc h8 c0)) ?_
     exact J2_0 _ (inj F1).symm
  refine run_loop rfl (run_loopO hl1 (fun s1=>[(0,vs x0),(2,.ptr 5000 [] 0),(4,.ptr 5001 [] 0),(5,vs s1.1),(19,.v (.arr 5 (.int .i64)) (List.set (List.set (List.set (List.set (List.set (replicate 5 0) 0 1) 1 1) 2 1) 3 2) 4 4)),(20,vi s1.2.1)]) (fun s1=>[(5000,.var 39 S39 (0,0,0,0,0,[])),(5001,.var 258 (.arr 5 (.int .u64)) s1.2.2)]) rfl rfl (fun s1 o1 F1 ih1 hr1=>?_))
  unfold F_entry_Decode_b1 at F1
  refine run_again (sq rfl (rg [(0,vs x0),(2,.ptr 5000 [] 0),(4,.ptr 5001 [] 0),(5,vs s1.1),(19,.v (.arr 5 (.int .i64)) (List.set (List.set (List.set (List.set (List.set (replicate 5 0) 0 1) 1 1) 2 1) 3 2) 4 4)),(20,vi s1.2.1),(21,vb (decide (s1.2.1<5)))] [(5000,.var 39 S39 (0,0,0,0,0,[])),(5001,.var 258 (.arr 5 (.int .u64)) s1.2.2)] [] [] 5002 rfl (by kernel_rfl) c0 (sq rfl ?_)))
  refine run_if rfl rfl (fun h9=>?_) (fun h9=>?_)
  ·replace F1:=ift h9 F1
   refine sk rfl (sq rfl (bk rfl (sq rfl ?_)))
   obtain ⟨h10,F1⟩:=ifg F1
   refine rg [(0,vs x0),(2,.ptr 5000 [] 0),(4,.ptr 5001 [] 0),(5,vs s1.1),(6,vi s1.2.1),(7,vi (getD (List.set (List.set (List.set (List.set (List.set (replicate 5 0) 0 1) 1 1) 2 1) 3 2) 4 4) (toNat s1.2.1) 0)),(19,.v (.arr 5 (.int .i64)) (List.set (List.set (List.set (List.set (List.set (replicate 5 0) 0 1) 1 1) 2 1) 3 2) 4 4)),(20,vi s1.2.1)] [(5000,.var 39 S39 (0,0,0,0,0,[])),(5001,.var 258 (.arr 5 (.int .u64)) s1.2.2)] [] [] 5002 rfl (by kernel_rfl) (cc h10 c0) ?_
   obtain ⟨t3,h11,F1⟩:=obd F1
   obtain ⟨h12,F1⟩:=ifg F1
   refine rg [(0,vs x0),(2,.ptr 5000 [] 0),(4,.ptr 5001 [] 0),(5,vs t3.2.1),(19,.v (.arr 5 (.int .i64)) (List.set (List.set (List.set (List.set (List.set (replicate 5 0) 0 1) 1 1) 2 1) 3 2) 4 4)),(20,vi s1.2.1)] [(5000,.var 39 S39 (0,0,0,0,0,[])),(5001,.var 258 (.arr 5 (.int .u64)) (List.set s1.2.2 (toNat s1.2.1) t3.1))] [(3,⟨[.v .str,.v (.int .i64)],.tup [vu t3.1,vs t3.2.1,vb t3.2.2],none⟩)] [] 5002 rfl (by kernel_rfl) (cc (W_pack_Take h11) (cc h12 (cc (show offP (.arr 5 (.int .u64)) [.i (toNat s1.2.1)]=(0+toNat s1.2.1*1) from offJ (p:=[]) (q:=[]) rfl (by kernel_rfl) (by kernel_rfl) (by kernel_rfl)) (cc (oo h12 trivial) c0)))) (eb (rg [(0,vs x0),(2,.ptr 5000 [] 0),(4,.ptr 5001 [] 0),(5,vs t3.2.1),(19,.v (.arr 5 (.int .i64)) (List.set (List.set (List.set (List.set (List.set (replicate 5 0) 0 1) 1 1) 2 1) 3 2) 4 4)),(20,vi (wrap .i64 (s1.2.1+1)))] [(5000,.var 39 S39 (0,0,0,0,0,[])),(5001,.var 258 (.arr 5 (.int .u64)) (List.set s1.2.2 (toNat s1.2.1) t3.1))] [] [] 5002 rfl (by kernel_rfl) c0 ?_))
   exact ih1 _ (inj F1).symm
  ·replace F1:=ifn h9 F1
   refine run_exit rfl rfl (tm (ρ':=[(0,vs x0),(2,.ptr 5000 [] 0),(4,.ptr 5001 [] 0),(5,vs s1.1)]) (H':=[(5000,.var 39 S39 (0,0,0,0,0,[])),(5001,.var 258 (.arr 5 (.int .u64)) s1.2.2)]) (by kernel_rfl) (by kernel_rfl) rfl ?_)
   exact J1_0 _ (inrI hr1 F1).symm
noncomputable def F_frame_Check_b2 (s1:Int) (x0:(List (List S39.ty))) (s2:Int):Option (Int⊕(Int⊕Unit)) :=
 if (decide (s2<2))=true then if 0≤s2∧s2<((2:Nat):Int) then (F_entry_Check (getD (getD x0 (toNat s1) (replicate 2 (0,0,0,0,0,[]))) (toNat s2) S39.dflt)).bind fun t1=>(if (t1 != 0)=true then some (Sum.inr (Sum.inl t1)) else some (Sum.inl (wrap .i64 (s2+1)))) else none else some (Sum.inr (Sum.inr ()))
noncomputable def F_frame_Check_b1 (x0:(List (List S39.ty))) (s1:Int):Option (Int⊕(Int⊕Unit)) :=
 if (decide (s1<3))=true then if 0≤s1∧s1<((3:Nat):Int) then (loopO (F_frame_Check_b2 s1 x0) 0).bind (Sum.elim (fun y2=>some (Sum.inr (Sum.inl y2))) (fun j21=>some (Sum.inl (wrap .i64 (s1+1))))) else none else some (Sum.inr (Sum.inr ()))
noncomputable def F_frame_Check (x0:(List (List S39.ty))):Option Int :=
 (loopO (F_frame_Check_b1 x0) 0).bind (Sum.elim some (fun j11=>some 0))
theorem W_frame_Check {x0:(List (List S39.ty))} {y:Int} (F0:F_frame_Check x0=some y):Pure Tryz.prog 85 [.v (.arr 3 (.arr 2 S39)) x0] (vi y):=by
 unfold F_frame_Check at F0
 refine pure_of_run @Tryz.call85 @Tryz.func85 rfl rfl fun w M ho=>?_
 refine sq rfl (rg [(1,.ptr 5000 [] 0)] [(5000,.var 42 (.arr 3 (.arr 2 S39)) x0)] [] [] 5000 rfl (by kernel_rfl) c0 (sq rfl (sq rfl (rg [(8,.v (.arr 3 (.arr 2 S39)) x0),(9,vi 0)] [] [] [] 5001 rfl (by kernel_rfl) c0 (bk rfl ?_)))))
 obtain ⟨r1,hl1,F0⟩:=obd F0
 refine run_cutx 0 rfl (fun j11=>r1=Sum.inr j11) (fun j11=>[]) (fun j11=>[]) (fun j11 h1=>?_) (fun J1_1=>?_)
 ·subst h1
  replace F0:=sumR F0
  refine sq rfl (rg [(2,vi 0)] [] [] [] 5000 rfl (by kernel_rfl) c0 ?_)
  obtain rfl:=inj F0
  exact ret_pure (q:=[vi 0]) [(.int .i64)] rfl rfl (by kernel_rfl)
 refine run_loop rfl (run_loopO hl1 (fun s1=>[(8,.v (.arr 3 (.arr 2 S39)) x0),(9,vi s1)]) (fun s1=>[]) rfl rfl (fun s1 o1 F1 ih1 hr1=>?_))
 unfold F_frame_Check_b1 at F1
 refine run_again (sq rfl (rg [(8,.v (.arr 3 (.arr 2 S39)) x0),(9,vi s1),(10,vb (decide (s1<3)))] [] [] [] 5000 rfl (by kernel_rfl) c0 (sq rfl ?_)))
 refine run_if rfl rfl (fun h2=>?_) (fun h2=>?_)
 ·replace F1:=ift h2 F1
  refine sk rfl (sq rfl (bk rfl (sq rfl ?_)))
  obtain ⟨h3,F1⟩:=ifg F1
  refine rg [(4,.ptr 5020 [] 0),(8,.v (.arr 3 (.arr 2 S39)) x0),(9,vi s1)] [(5020,.var 40 (.arr 2 S39) (getD x0 (toNat s1) (replicate 2 (0,0,0,0,0,[]))))] [] [] 5000 rfl (by kernel_rfl) (cc h3 c0) (sq rfl (rg [(8,.v (.arr 3 (.arr 2 S39)) x0),(9,vi s1),(12,.v (.arr 2 S39) (getD x0 (toNat s1) (replicate 2 (0,0,0,0,0,[])))),(13,vi 0)] [] [] [] 5021 rfl (by kernel_rfl) c0 (bk rfl ?_)))
  obtain ⟨r2,hl2,F1⟩:=obd F1
  refine run_cutx 2 rfl (fun j21=>r2=Sum.inr j21) (fun j21=>[(8,.v (.arr 3 (.arr 2 S39)) x0),(9,vi s1)]) (fun j21=>[]) (fun j21 h4=>?_) (fun J2_1=>?_)
  ·subst h4
   replace F1:=sumR F1
   refine eb (rg [(8,.v (.arr 3 (.arr 2 S39)) x0),(9,vi (wrap .i64 (s1+1)))] [] [] [] 5000 rfl (by kernel_rfl) c0 ?_)
   exact ih1 _ (inj F1).symm
  refine run_loop rfl (run_loopO hl2 (fun s2=>[(8,.v (.arr 3 (.arr 2 S39)) x0),(9,vi s1),(12,.v (.arr 2 S39) (getD x0 (toNat s1) (replicate 2 (0,0,0,0,0,[])))),(13,vi s2)]) (fun s2=>[]) rfl rfl (fun s2 o2 F2 ih2 hr2=>?_))
  unfold F_frame_Check_b2 at F2
  refine run_again (sq rfl (rg [(8,.v (.arr 3 (.arr 2 S39)) x0),(9,vi s1),(12,.v (.arr 2 S39) (getD x0 (toNat s1) (replicate 2 (0,0,0,0,0,[])))),(13,vi s2),(14,vb (decide (s2<2)))] [] [] [] 5000 rfl (by kernel_rfl) c0 (sq rfl ?_)))
  refine run_if rfl rfl (fun h5=>?_) (fun h5=>?_)
  ·replace F2:=ift h5 F2
   refine sk rfl (sq rfl (bk rfl (sq rfl ?_)))
   obtain ⟨h6,F2⟩:=ifg F2
   refine rg [(6,.ptr 5020 [] 0),(8,.v (.arr 3 (.arr 2 S39)) x0),(9,vi s1),(12,.v (.arr 2 S39) (getD x0 (toNat s1) (replicate 2 (0,0,0,0,0,[])))),(13,vi s2)] [(5020,.var 39 S39 (getD (getD x0 (toNat s1) (replicate 2 (0,0,0,0,0,[]))) (toNat s2) S39.dflt))] [] [] 5000 rfl (by kernel_rfl) (cc h6 c0) (sq rfl ?_)
   obtain ⟨t1,h7,F2⟩:=obd F2
   refine rg [(7,vi t1),(8,.v (.arr 3 (.arr 2 S39)) x0),(9,vi s1),(12,.v (.arr 2 S39) (getD x0 (toNat s1) (replicate 2 (0,0,0,0,0,[])))),(13,vi s2)] [] [(1,⟨[.v S39],vi t1,none⟩)] [] 5021 rfl (by kernel_rfl) (cc (W_entry_Check h7) c0) (sq rfl (rg [(7,vi t1),(8,.v (.arr 3 (.arr 2 S39)) x0),(9,vi s1),(12,.v (.arr 2 S39) (getD x0 (toNat s1) (replicate 2 (0,0,0,0,0,[])))),(13,vi s2),(19,vb (t1 != 0))] [] [] [] 5000 rfl (by kernel_rfl) c0 ?_))
   refine run_if rfl rfl (fun h8=>?_) (fun h8=>?_)
   ·replace F2:=ift h8 F2
    refine sq rfl (rg [(2,vi t1)] [] [] [] 5000 rfl (by kernel_rfl) c0 ?_)
    have e2:=inrI hr2 F2
    subst e2
    replace F1:=sumL F1
    have e1:=inrI hr1 F1
    subst e1
    replace F0:=sumL F0
    obtain rfl:=inj F0
    exact ret_pure (q:=[vi t1]) [(.int .i64)] rfl rfl (by kernel_rfl)
   ·replace F2:=ifn h8 F2
    refine sk rfl (eb (rg [(8,.v (.arr 3 (.arr 2 S39)) x0),(9,vi s1),(12,.v (.arr 2 S39) (getD x0 (toNat s1) (replicate 2 (0,0,0,0,0,[])))),(13,vi (wrap .i64 (s2+1)))] [] [] [] 5000 rfl (by kernel_rfl) c0 ?_))
    exact ih2 _ (inj F2).symm
  ·replace F2:=ifn h5 F2
   refine run_exit rfl rfl (tm (ρ':=[(8,.v (.arr 3 (.arr 2 S39)) x0),(9,vi s1)]) (H':=[]) (by kernel_rfl) (by kernel_rfl) rfl ?_)
   exact J2_1 _ (inrI hr2 F2).symm
 ·replace F1:=ifn h2 F1
  refine run_exit rfl rfl (tm (ρ':=[]) (H':=[]) (by kernel_rfl) (by kernel_rfl) rfl ?_)
  exact J1_1 _ (inrI hr1 F1).symm
abbrev Z190:Sh:=(.st (.prod .np (.nl (.int .u8))))
noncomputable def F_frame_Encode_b2 (s1:(Int×(List Int))) (x0:(List (List S39.ty))) (s2:(Int×(List Int))):Option ((Int×(List Int))⊕((Str×Int)⊕(List Int))) :=
 if (decide (s2.1<2))=true then if 0≤s2.1∧s2.1<((2:Nat):Int) then (F_entry_Encode (getD (getD x0 (toNat s1.1) (replicate 2 (0,0,0,0,0,[]))) (toNat s2.1) S39.dflt)).bind fun t2=>(if (t2.2 != 0)=true then some (Sum.inr (Sum.inl ([],t2.2))) else (F_strings_Builder_WriteString ((),s2.2) t2.1).bind fun t3=>(some (Sum.inl (wrap .i64 (s2.1+1),t3.2.2.2)))) else none else some (Sum.inr (Sum.inr s2.2))
noncomputable def F_frame_Encode_b1 (x0:(List (List S39.ty))) (s1:(Int×(List Int))):Option ((Int×(List Int))⊕((Str×Int)⊕(List Int))) :=
 if (decide (s1.1<3))=true then if 0≤s1.1∧s1.1<((3:Nat):Int) then (loopO (F_frame_Encode_b2 s1 x0) (0,s1.2)).bind (Sum.elim (fun y2=>some (Sum.inr (Sum.inl y2))) (fun j21=>some (Sum.inl (wrap .i64 (s1.1+1),j21)))) else none else some (Sum.inr (Sum.inr s1.2))
noncomputable def F_frame_Encode (x0:(List (List S39.ty))):Option (Str×Int) :=
 (loopO (F_frame_Encode_b1 x0) (0,[])).bind (Sum.elim some (fun j11=>(F_strings_Builder_String ((),j11)).bind fun t1=>(some (t1,0))))
theorem W_frame_Encode {x0:(List (List S39.ty))} {y:(Str×Int)} (F0:F_frame_Encode x0=some y):Pure Tryz.prog 156 [.v (.arr 3 (.arr 2 S39)) x0] (.tup [vs y.1,vi y.2]):=by
 unfold F_frame_Encode at F0
 refine pure_of_run @Tryz.call156 @Tryz.func156 rfl rfl fun w M ho=>?_
 refine sq rfl (rg [(1,.ptr 5000 [] 0)] [(5000,.var 42 (.arr 3 (.arr 2 S39)) x0)] [] [] 5000 rfl (by kernel_rfl) c0 (sq rfl (rg [(1,.ptr 5000 [] 0),(4,.ptr 5001 [] 0)] [(5000,.var 42 (.arr 3 (.arr 2 S39)) x0),(5001,.var 190 Z190 ((),()))] [] [] 5001 rfl (by kernel_rfl) c0 (run_npF (H':=[(5000,.var 42 (.arr 3 (.arr 2 S39)) x0),(5001,.var 190 (.st (.prod .oref (.nl (.int .u8)))) (5001,()))]) 5001 5001 [.u,.l] rfl rfl rfl rfl rfl rfl (run_nilF (H':=[(1001,.row 5 (.int .u8) []),(5000,.var 42 (.arr 3 (.arr 2 S39)) x0),(5001,.var 190 O190 (5001,1001))]) 5001 1001 [.u,.r] 5 (.int .u8) rfl rfl rfl rfl rfl rfl (by kernel_rfl) rfl (sq rfl (sq rfl (rg [(4,.ptr 5001 [] 0),(11,.v (.arr 3 (.arr 2 S39)) x0),(12,vi 0)] [(1001,.row 5 (.int .u8) []),(5001,.var 190 O190 (5001,1001))] [] [] 5002 rfl (by kernel_rfl) c0 (bk rfl ?_)))))))))
 obtain ⟨r1,hl1,F0⟩:=obd F0
 refine run_cutx 0 rfl (fun j11=>r1=Sum.inr j11) (fun j11=>[(4,.ptr 5001 [] 0)]) (fun j11=>[(1001,.row 5 (.int .u8) j11),(5001,.var 190 O190 (5001,1001))]) (fun j11 h1=>?_) (fun J1_1=>?_)
 ·subst h1
  replace F0:=sumR F0
  refine sq rfl ?_
  obtain ⟨t1,h2,F0⟩:=obd F0
  refine rg [(2,vs t1),(3,vi 0)] [] [(0,⟨[.v .unit],vs t1,some ([5001,1001],[])⟩)] [] 5002 rfl (by kernel_rfl) (cc (W_strings_Builder_String (T0:=190) h2) c0) ?_
  obtain rfl:=inj F0
  exact ret_pure (q:=[vs t1,vi 0]) [.str,(.int .i64)] rfl rfl (by kernel_rfl)
 refine run_loop rfl (run_loopO hl1 (fun s1=>[(4,.ptr 5001 [] 0),(11,.v (.arr 3 (.arr 2 S39)) x0),(12,vi s1.1)]) (fun s1=>[(1001,.row 5 (.int .u8) s1.2),(5001,.var 190 O190 (5001,1001))]) rfl rfl (fun s1 o1 F1 ih1 hr1=>?_))
 unfold F_frame_Encode_b1 at F1
 refine run_again (sq rfl (rg [(4,.ptr 5001 [] 0),(11,.v (.arr 3 (.arr 2 S39)) x0),(12,vi s1.1),(13,vb (decide (s1.1<3)))] [(1001,.row 5 (.int .u8) s1.2),(5001,.var 190 O190 (5001,1001))] [] [] 5002 rfl (by kernel_rfl) c0 (sq rfl ?_)))
 refine run_if rfl rfl (fun h3=>?_) (fun h3=>?_)
 ·replace F1:=ift h3 F1
  refine sk rfl (sq rfl (bk rfl (sq rfl ?_)))
  obtain ⟨h4,F1⟩:=ifg F1
  refine rg [(4,.ptr 5001 [] 0),(6,.ptr 5022 [] 0),(11,.v (.arr 3 (.arr 2 S39)) x0),(12,vi s1.1)] [(1001,.row 5 (.int .u8) s1.2),(5001,.var 190 O190 (5001,1001)),(5022,.var 40 (.arr 2 S39) (getD x0 (toNat s1.1) (replicate 2 (0,0,0,0,0,[]))))] [] [] 5002 rfl (by kernel_rfl) (cc h4 c0) (sq rfl (rg [(4,.ptr 5001 [] 0),(11,.v (.arr 3 (.arr 2 S39)) x0),(12,vi s1.1),(15,.v (.arr 2 S39) (getD x0 (toNat s1.1) (replicate 2 (0,0,0,0,0,[])))),(16,vi 0)] [(1001,.row 5 (.int .u8) s1.2),(5001,.var 190 O190 (5001,1001))] [] [] 5023 rfl (by kernel_rfl) c0 (bk rfl ?_)))
  obtain ⟨r2,hl2,F1⟩:=obd F1
  refine run_cutx 2 rfl (fun j21=>r2=Sum.inr j21) (fun j21=>[(4,.ptr 5001 [] 0),(11,.v (.arr 3 (.arr 2 S39)) x0),(12,vi s1.1)]) (fun j21=>[(1001,.row 5 (.int .u8) j21),(5001,.var 190 O190 (5001,1001))]) (fun j21 h5=>?_) (fun J2_1=>?_)
  ·subst h5
   replace F1:=sumR F1
   refine eb (rg [(4,.ptr 5001 [] 0),(11,.v (.arr 3 (.arr 2 S39)) x0),(12,vi (wrap .i64 (s1.1+1)))] [(1001,.row 5 (.int .u8) j21),(5001,.var 190 O190 (5001,1001))] [] [] 5002 rfl (by kernel_rfl) c0 ?_)
   exact ih1 _ (inj F1).symm
  refine run_loop rfl (run_loopO hl2 (fun s2=>[(4,.ptr 5001 [] 0),(11,.v (.arr 3 (.arr 2 S39)) x0),(12,vi s1.1),(15,.v (.arr 2 S39) (getD x0 (toNat s1.1) (replicate 2 (0,0,0,0,0,[])))),(16,vi s2.1)]) (fun s2=>[(1001,.row 5 (.int .u8) s2.2),(5001,.var 190 O190 (5001,1001))]) rfl rfl (fun s2 o2 F2 ih2 hr2=>?_))
  unfold F_frame_Encode_b2 at F2
  refine run_again (sq rfl (rg [(4,.ptr 5001 [] 0),(11,.v (.arr 3 (.arr 2 S39)) x0),(12,vi s1.1),(15,.v (.arr 2 S39) (getD x0 (toNat s1.1) (replicate 2 (0,0,0,0,0,[])))),(16,vi s2.1),(17,vb (decide (s2.1<2)))] [(1001,.row 5 (.int .u8) s2.2),(5001,.var 190 O190 (5001,1001))] [] [] 5002 rfl (by kernel_rfl) c0 (sq rfl ?_)))
  refine run_if rfl rfl (fun h6=>?_) (fun h6=>?_)
  ·replace F2:=ift h6 F2
   refine sk rfl (sq rfl (bk rfl (sq rfl ?_)))
   obtain ⟨h7,F2⟩:=ifg F2
   refine rg [(4,.ptr 5001 [] 0),(8,.ptr 5022 [] 0),(11,.v (.arr 3 (.arr 2 S39)) x0),(12,vi s1.1),(15,.v (.arr 2 S39) (getD x0 (toNat s1.1) (replicate 2 (0,0,0,0,0,[])))),(16,vi s2.1)] [(1001,.row 5 (.int .u8) s2.2),(5001,.var 190 O190 (5001,1001)),(5022,.var 39 S39 (getD (getD x0 (toNat s1.1) (replicate 2 (0,0,0,0,0,[]))) (toNat s2.1) S39.dflt))] [] [] 5002 rfl (by kernel_rfl) (cc h7 c0) (sq rfl ?_)
   obtain ⟨t2,h8,F2⟩:=obd F2
   refine rg [(4,.ptr 5001 [] 0),(9,vs t2.1),(10,vi t2.2),(11,.v (.arr 3 (.arr 2 S39)) x0),(12,vi s1.1),(15,.v (.arr 2 S39) (getD x0 (toNat s1.1) (replicate 2 (0,0,0,0,0,[])))),(16,vi s2.1)] [(1001,.row 5 (.int .u8) s2.2),(5001,.var 190 O190 (5001,1001))] [(1,⟨[.v S39],.tup [vs t2.1,vi t2.2],none⟩)] [] 5023 rfl (by kernel_rfl) (cc (W_entry_Encode h8) c0) (sq rfl (sq rfl (rg [(4,.ptr 5001 [] 0),(9,vs t2.1),(10,vi t2.2),(11,.v (.arr 3 (.arr 2 S39)) x0),(12,vi s1.1),(15,.v (.arr 2 S39) (getD x0 (toNat s1.1) (replicate 2 (0,0,0,0,0,[])))),(16,vi s2.1),(25,vb (t2.2 != 0))] [(1001,.row 5 (.int .u8) s2.2),(5001,.var 190 O190 (5001,1001))] [] [] 5002 rfl (by kernel_rfl) c0 ?_)))
   refine run_if rfl rfl (fun h9=>?_) (fun h9=>?_)
   ·replace F2:=ift h9 F2
    refine sq rfl (rg [(2,vs []),(3,vi t2.2)] [] [] [] 5002 rfl (by kernel_rfl) c0 ?_)
    have e2:=inrI hr2 F2
    subst e2
    replace F1:=sumL F1
    have e1:=inrI hr1 F1
    subst e1
    replace F0:=sumL F0
    obtain rfl:=inj F0
    exact ret_pure (q:=[vs [],vi t2.2]) [.str,(.int .i64)] rfl rfl (by kernel_rfl)
   ·replace F2:=ifn h9 F2
    refine sk rfl ?_
    obtain ⟨t3,h10,F2⟩:=obd F2
    refine rg [(4,.ptr 5001 [] 0),(11,.v (.arr 3 (.arr 2 S39)) x0),(12,vi s1.1),(15,.v (.arr 2 S39) (getD x0 (toNat s1.1) (replicate 2 (0,0,0,0,0,[])))),(16,vi s2.1)] [(5001,.var 190 O190 (5001,6023)),(6023,.row 5 (.int .u8) t3.2.2.2)] [(1,⟨[.v .unit,.v .str],.tup [vi t3.1,.v .any t3.2.1],some ([5001,1001],[(0,.var 190 O190 (0,1001)),(1001,.row 5 (.int .u8) t3.2.2.2)])⟩)] [] 5002 rfl (by kernel_rfl) (cc (W_strings_Builder_WriteString (T0:=190) h10) c0) (run_renF (ρ':=[(4,.ptr 5001 [] 0),(11,.v (.arr 3 (.arr 2 S39)) x0),(12,vi s1.1),(15,.v (.arr 2 S39) (getD x0 (toNat s1.1) (replicate 2 (0,0,0,0,0,[])))),(16,vi s2.1)]) (H':=[(1001,.row 5 (.int .u8) t3.2.2.2),(5001,.var 190 O190 (5001,1001))]) 6023 1001 rfl (by kernel_rfl) rfl rfl (by kernel_rfl) rfl (eb (rg [(4,.ptr 5001 [] 0),(11,.v (.arr 3 (.arr 2 S39)) x0),(12,vi s1.1),(15,.v (.arr 2 S39) (getD x0 (toNat s1.1) (replicate 2 (0,0,0,0,0,[])))),(16,vi (wrap .i64 (s2.1+1)))] [(1001,.row 5 (.int .u8) t3.2.2.2),(5001,.var 190 O190 (5001,1001))] [] [] 5002 rfl (by kernel_rfl) c0 ?_)))
    exact ih2 _ (inj F2).symm
  ·replace F2:=ifn h6 F2
   refine run_exit rfl rfl (tm (ρ':=[(4,.ptr 5001 [] 0),(11,.v (.arr 3 (.arr 2 S39)) x0),(12,vi s1.1)]) (H':=[(1001,.row 5 (.int .u8) s2.2),(5001,.var 190 O190 (5001,1001))]) (by kernel_rfl) (by kernel_rfl) rfl ?_)
   exact J2_1 _ (inrI hr2 F2).symm
 ·replace F1:=ifn h3 F1
  refine run_exit rfl rfl (tm (ρ':=[(4,.ptr 5001 [] 0)]) (H':=[(1001,.row 5 (.int .u8) s1.2),(5001,.var 190 O190 (5001,1001))]) (by kernel_rfl) (by kernel_rfl) rfl ?_)
  exact J1_1 _ (inrI hr1 F1).symm
noncomputable def F_frame_Decode_b2 (s1:(Str×Int×(List (List S39.ty)))) (s2:(Str×Int×(List (List S39.ty)))):Option ((Str×Int×(List (List S39.ty)))⊕(((List (List S39.ty))×Int)⊕(Str×(List (List S39.ty))))) :=
 if (decide (s2.2.1<2))=true then if ((0:Int)≤28∧0≤toNat 28∧toNat 28≤length s2.1) then (F_entry_Decode (drop 0 (take (toNat 28) s2.1))).bind fun t1=>(if (t1.2 != 0)=true then some (Sum.inr (Sum.inl (replicate 3 (replicate 2 (0,0,0,0,0,[])),t1.2))) else if ((0:Int)≤28∧toNat 28≤length s2.1∧length s2.1≤length s2.1) then (if 0≤s1.2.1∧s1.2.1<((3:Nat):Int) then (if 0≤s2.2.1∧s2.2.1<((2:Nat):Int) then (some (Sum.inl (drop (toNat 28) (take (length s2.1) s2.1),wrap .i64 (s2.2.1+1),List.set s2.2.2 (toNat s1.2.1) (List.set (getD s2.2.2 (toNat s1.2.1) (replicate 2 (0,0,0,0,0,[]))) (toNat s2.2.1) t1.1)))) else none) else none) else none) else none else some (Sum.inr (Sum.inr (s2.1,s2.2.2)))
noncomputable def F_frame_Decode_b1 (s1:(Str×Int×(List (List S39.ty)))):Option ((Str×Int×(List (List S39.ty)))⊕(((List (List S39.ty))×Int)⊕(List (List S39.ty)))) :=
 if (decide (s1.2.1<3))=true then (loopO (F_frame_Decode_b2 s1) (s1.1,0,s1.2.2)).bind (Sum.elim (fun y2=>some (Sum.inr (Sum.inl y2))) (fun j21=>some (Sum.inl (j21.1,wrap .i64 (s1.2.1+1),j21.2)))) else some (Sum.inr (Sum.inr s1.2.2))
noncomputable def F_frame_Decode (x0:Str):Option ((List (List S39.ty))×Int) :=
 if (((length x0:Nat):Int) != 168)=true then some (replicate 3 (replicate 2 (0,0,0,0,0,[])),40) else (loopO (F_frame_Decode_b1) (x0,0,replicate 3 (replicate 2 (0,0,0,0,0,[])))).bind (Sum.elim some (fun j11=>some (j11,0)))
theorem W_frame_Decode {x0:Str} {y:((List (List S39.ty))×Int)} (F0:F_frame_Decode x0=some y):Pure Tryz.prog 190 [vs x0] (.tup [.v (.arr 3 (.arr 2 S39)) y.1,vi y.2]):=by
 unfold F_frame_Decode at F0
 refine pure_of_run @Tryz.call190 @Tryz.func190 rfl rfl fun w M ho=>?_
 refine sq rfl (rg [(0,vs x0),(2,.ptr 5000 [] 0)] [(5000,.var 42 (.arr 3 (.arr 2 S39)) (replicate 3 (replicate 2 (0,0,0,0,0,[]))))] [] [] 5000 rfl (by kernel_rfl) c0 (sq rfl (sq rfl (rg [(0,vs x0),(2,.ptr 5000 [] 0),(11,vb (((length x0:Nat):Int) != 168))] [(5000,.var 42 (.arr 3 (.arr 2 S39)) (replicate 3 (replicate 2 (0,0,0,0,0,[]))))] [] [] 5001 rfl (by kernel_rfl) c0 ?_))))
 refine run_if rfl rfl (fun h1=>?_) (fun h1=>?_)
 ·replace F0:=ift h1 F0
  refine sq rfl (rg [(2,.ptr 5000 [] 0),(3,vi 40)] [(5000,.var 42 (.arr 3 (.arr 2 S39)) (replicate 3 (replicate 2 (0,0,0,0,0,[]))))] [] [] 5001 rfl (by kernel_rfl) c0 ?_)
  obtain rfl:=inj F0
  exact ret_pure (q:=[.v (.arr 3 (.arr 2 S39)) (replicate 3 (replicate 2 (0,0,0,0,0,[]))),vi 40]) [(.arr 3 (.arr 2 S39)),(.int .i64)] rfl rfl (by kernel_rfl)
 ·replace F0:=ifn h1 F0
  refine sk rfl (sq rfl (rg [(0,vs x0),(2,.ptr 5000 [] 0),(4,.ptr 5001 [] 0)] [(5000,.var 42 (.arr 3 (.arr 2 S39)) (replicate 3 (replicate 2 (0,0,0,0,0,[])))),(5001,.var 42 (.arr 3 (.arr 2 S39)) (replicate 3 (replicate 2 (0,0,0,0,0,[]))))] [] [] 5001 rfl (by kernel_rfl) c0 (sq rfl (sq rfl (rg [(0,vs x0),(2,.ptr 5000 [] 0),(4,.ptr 5001 [] 0),(13,vi 0)] [(5000,.var 42 (.arr 3 (.arr 2 S39)) (replicate 3 (replicate 2 (0,0,0,0,0,[])))),(5001,.var 42 (.arr 3 (.arr 2 S39)) (replicate 3 (replicate 2 (0,0,0,0,0,[]))))] [] [] 5002 rfl (by kernel_rfl) c0 (bk rfl ?_))))))
  obtain ⟨r1,hl1,F0⟩:=obd F0
  refine run_cutx 0 rfl (fun j11=>r1=Sum.inr j11) (fun j11=>[(2,.ptr 5000 [] 0),(4,.ptr 5001 [] 0)]) (fun j11=>[(5000,.var 42 (.arr 3 (.arr 2 S39)) (replicate 3 (replicate 2 (0,0,0,0,0,[])))),(5001,.var 42 (.arr 3 (.arr 2 S39)) j11)]) (fun j11 h2=>?_) (fun J1_1=>?_)
  ·subst h2
   replace F0:=sumR F0
   refine sq rfl (rg [(2,.ptr 5000 [] 0),(3,vi 0)] [(5000,.var 42 (.arr 3 (.arr 2 S39)) j11)] [] [] 5002 rfl (by kernel_rfl) c0 ?_)
   obtain rfl:=inj F0
   exact ret_pure (q:=[.v (.arr 3 (.arr 2 S39)) j11,vi 0]) [(.arr 3 (.arr 2 S39)),(.int .i64)] rfl rfl (by kernel_rfl)
  refine run_loop rfl (run_loopO hl1 (fun s1=>[(0,vs s1.1),(2,.ptr 5000 [] 0),(4,.ptr 5001 [] 0),(13,vi s1.2.1)]) (fun s1=>[(5000,.var 42 (.arr 3 (.arr 2 S39)) (replicate 3 (replicate 2 (0,0,0,0,0,[])))),(5001,.var 42 (.arr 3 (.arr 2 S39)) s1.2.2)]) rfl rfl (fun s1 o1 F1 ih1 hr1=>?_))
  unfold F_frame_Decode_b1 at F1
  refine run_again (sq rfl (rg [(0,vs s1.1),(2,.ptr 5000 [] 0),(4,.ptr 5001 [] 0),(13,vi s1.2.1),(14,vb (decide (s1.2.1<3)))] [(5000,.var 42 (.arr 3 (.arr 2 S39)) (replicate 3 (replicate 2 (0,0,0,0,0,[])))),(5001,.var 42 (.arr 3 (.arr 2 S39)) s1.2.2)] [] [] 5002 rfl (by kernel_rfl) c0 (sq rfl ?_)))
  refine run_if rfl rfl (fun h3=>?_) (fun h3=>?_)
  ·replace F1:=ift h3 F1
   refine sk rfl (sq rfl (bk rfl (sq rfl (rg [(0,vs s1.1),(2,.ptr 5000 [] 0),(4,.ptr 5001 [] 0),(5,vi s1.2.1),(13,vi s1.2.1)] [(5000,.var 42 (.arr 3 (.arr 2 S39)) (replicate 3 (replicate 2 (0,0,0,0,0,[])))),(5001,.var 42 (.arr 3 (.arr 2 S39)) s1.2.2)] [] [] 5002 rfl (by kernel_rfl) c0 (sq rfl (rg [(0,vs s1.1),(2,.ptr 5000 [] 0),(4,.ptr 5001 [] 0),(5,vi s1.2.1),(13,vi s1.2.1),(16,vi 0)] [(5000,.var 42 (.arr 3 (.arr 2 S39)) (replicate 3 (replicate 2 (0,0,0,0,0,[])))),(5001,.var 42 (.arr 3 (.arr 2 S39)) s1.2.2)] [] [] 5002 rfl (by kernel_rfl) c0 (bk rfl ?_)))))))
   obtain ⟨r2,hl2,F1⟩:=obd F1
   refine run_cutx 2 rfl (fun j21=>r2=Sum.inr j21) (fun j21=>[(0,vs j21.1),(2,.ptr 5000 [] 0),(4,.ptr 5001 [] 0),(13,vi s1.2.1)]) (fun j21=>[(5000,.var 42 (.arr 3 (.arr 2 S39)) (replicate 3 (replicate 2 (0,0,0,0,0,[])))),(5001,.var 42 (.arr 3 (.arr 2 S39)) j21.2)]) (fun j21 h4=>?_) (fun J2_1=>?_)
   ·subst h4
    replace F1:=sumR F1
    refine eb (rg [(0,vs j21.1),(2,.ptr 5000 [] 0),(4,.ptr 5001 [] 0),(13,vi (wrap .i64 (s1.2.1+1)))] [(5000,.var 42 (.arr 3 (.arr 2 S39)) (replicate 3 (replicate 2 (0,0,0,0,0,[])))),(5001,.var 42 (.arr 3 (.arr 2 S39)) j21.2)] [] [] 5002 rfl (by kernel_rfl) c0 ?_)
    exact ih1 _ (inj F1).symm
   refine run_loop rfl (run_loopO hl2 (fun s2=>[(0,vs s2.1),(2,.ptr 5000 [] 0),(4,.ptr 5001 [] 0),(5,vi s1.2.1),(13,vi s1.2.1),(16,vi s2.2.1)]) (fun s2=>[(5000,.var 42 (.arr 3 (.arr 2 S39)) (replicate 3 (replicate 2 (0,0,0,0,0,[])))),(5001,.var 42 (.arr 3 (.arr 2 S39)) s2.2.2)]) rfl rfl (fun s2 o2 F2 ih2 hr2=>?_))
   unfold F_frame_Decode_b2 at F2
   refine run_again (sq rfl (rg [(0,vs s2.1),(2,.ptr 5000 [] 0),(4,.ptr 5001 [] 0),(5,vi s1.2.1),(13,vi s1.2.1),(16,vi s2.2.1),(17,vb (decide (s2.2.1<2)))] [(5000,.var 42 (.arr 3 (.arr 2 S39)) (replicate 3 (replicate 2 (0,0,0,0,0,[])))),(5001,.var 42 (.arr 3 (.arr 2 S39)) s2.2.2)] [] [] 5002 rfl (by kernel_rfl) c0 (sq rfl ?_)))
   refine run_if rfl rfl (fun h5=>?_) (fun h5=>?_)
   ·replace F2:=ift h5 F2
    refine sk rfl (sq rfl (bk rfl (sq rfl (rg [(0,vs s2.1),(2,.ptr 5000 [] 0),(4,.ptr 5001 [] 0),(5,vi s1.2.1),(6,vi s2.2.1),(13,vi s1.2.1),(16,vi s2.2.1)] [(5000,.var 42 (.arr 3 (.arr 2 S39)) (replicate 3 (replicate 2 (0,0,0,0,0,[])))),(5001,.var 42 (.arr 3 (.arr 2 S39)) s2.2.2)] [] [] 5002 rfl (by kernel_rfl) c0 (sq rfl ?_)))))
    obtain ⟨h6,F2⟩:=ifg F2
    obtain ⟨t1,h7,F2⟩:=obd F2
    refine rg [(0,vs s2.1),(2,.ptr 5000 [] 0),(4,.ptr 5001 [] 0),(5,vi s1.2.1),(6,vi s2.2.1),(7,.ptr 5122 [] 0),(8,vi t1.2),(13,vi s1.2.1),(16,vi s2.2.1)] [(5000,.var 42 (.arr 3 (.arr 2 S39)) (replicate 3 (replicate 2 (0,0,0,0,0,[])))),(5001,.var 42 (.arr 3 (.arr 2 S39)) s2.2.2),(5122,.var 39 S39 t1.1)] [(2,⟨[.v .str],.tup [.v S39 t1.1,vi t1.2],none⟩)] [] 5002 rfl (by kernel_rfl) (cc h6.1 (cc h6.2.1 (cc h6.2.2 (cc (W_entry_Decode h7) c0)))) (sq rfl (sq rfl (rg [(0,vs s2.1),(2,.ptr 5000 [] 0),(4,.ptr 5001 [] 0),(5,vi s1.2.1),(6,vi s2.2.1),(7,.ptr 5122 [] 0),(8,vi t1.2),(13,vi s1.2.1),(16,vi s2.2.1),(26,vb (t1.2 != 0))] [(5000,.var 42 (.arr 3 (.arr 2 S39)) (replicate 3 (replicate 2 (0,0,0,0,0,[])))),(5001,.var 42 (.arr 3 (.arr 2 S39)) s2.2.2),(5122,.var 39 S39 t1.1)] [] [] 5123 rfl (by kernel_rfl) c0 ?_)))
    refine run_if rfl rfl (fun h8=>?_) (fun h8=>?_)
    ·replace F2:=ift h8 F2
     refine sq rfl (rg [(2,.ptr 5000 [] 0),(3,vi t1.2)] [(5000,.var 42 (.arr 3 (.arr 2 S39)) (replicate 3 (replicate 2 (0,0,0,0,0,[]))))] [] [] 5123 rfl (by kernel_rfl) c0 ?_)
     have e2:=inrI hr2 F2
     subst e2
     replace F1:=sumL F1
     have e1:=inrI hr1 F1
     subst e1
     replace F0:=sumL F0
     obtain rfl:=inj F0
     exact ret_pure (q:=[.v (.arr 3 (.arr 2 S39)) (replicate 3 (replicate 2 (0,0,0,0,0,[]))),vi t1.2]) [(.arr 3 (.arr 2 S39)),(.int .i64)] rfl rfl (by kernel_rfl)
    ·replace F2:=ifn h8 F2
     refine sk rfl ?_
     obtain ⟨h9,F2⟩:=ifg F2
     obtain ⟨h10,F2⟩:=ifg F2
     obtain ⟨h11,F2⟩:=ifg F2
     refine rG [(0,vs (drop (toNat 28) (take (length s2.1) s2.1))),(2,.ptr 5000 [] 0),(4,.ptr 5001 [] 0),(5,vi s1.2.1),(13,vi s1.2.1),(16,vi s2.2.1)] [(5000,.var 42 (.arr 3 (.arr 2 S39)) (replicate 3 (replicate 2 (0,0,0,0,0,[])))),(5001,.var 42 (.arr 3 (.arr 2 S39)) (List.set s2.2.2 (toNat s1.2.1) (List.set (getD s2.2.2 (toNat s1.2.1) (replicate 2 (0,0,0,0,0,[]))) (toNat s2.2.1) t1.1)))] [] [] 5123 rfl rfl (by kernel_rfl) (cc h9.1 (cc h9.2.1 (cc h9.2.2 (cc h10 (cc h11 (cc (show offP (.arr 3 (.arr 2 S39)) [.i (toNat s1.2.1),.i (toNat s2.2.1)]=((0+toNat s1.2.1*12)+toNat s2.2.1*6) from (by simp [offP,Sh.size]<;>omega)) (cc (oo h10 (oo h11 trivial)) c0))))))) (eb (rg [(0,vs (drop (toNat 28) (take (length s2.1) s2.1))),(2,.ptr 5000 [] 0),(4,.ptr 5001 [] 0),(5,vi s1.2.1),(13,vi s1.2.1),(16,vi (wrap .i64 (s2.2.1+1)))] [(5000,.var 42 (.arr 3 (.arr 2 S39)) (replicate 3 (replicate 2 (0,0,0,0,0,[])))),(5001,.var 42 (.arr 3 (.arr 2 S39)) (List.set s2.2.2 (toNat s1.2.1) (List.set (getD s2.2.2 (toNat s1.2.1) (replicate 2 (0,0,0,0,0,[]))) (toNat s2.2.1) t1.1)))] [] [] 5002 rfl (by kernel_rfl) c0 ?_))
     exact ih2 _ (inj F2).symm
   ·replace F2:=ifn h5 F2
    refine run_exit rfl rfl (tm (ρ':=[(0,vs s2.1),(2,.ptr 5000 [] 0),(4,.ptr 5001 [] 0),(13,vi s1.2.1)]) (H':=[(5000,.var 42 (.arr 3 (.arr 2 S39)) (replicate 3 (replicate 2 (0,0,0,0,0,[])))),(5001,.var 42 (.arr 3 (.arr 2 S39)) s2.2.2)]) (by kernel_rfl) (by kernel_rfl) rfl ?_)
    exact J2_1 _ (inrI hr2 F2).symm
  ·replace F1:=ifn h3 F1
   refine run_exit rfl rfl (tm (ρ':=[(2,.ptr 5000 [] 0),(4,.ptr 5001 [] 0)]) (H':=[(5000,.var 42 (.arr 3 (.arr 2 S39)) (replicate 3 (replicate 2 (0,0,0,0,0,[])))),(5001,.var 42 (.arr 3 (.arr 2 S39)) s1.2.2)]) (by kernel_rfl) (by kernel_rfl) rfl ?_)
   exact J1_1 _ (inrI hr1 F1).symm
noncomputable def F_crc_nibbles_b2 (s2:(Int×Int)):Option ((Int×Int)⊕Int) :=
 if (decide (s2.2<4))=true then if ((bits .and .u32 s2.1 1)==1)=true then some (Sum.inl (bits .xor .u32 (Int.fdiv s2.1 (2^min (toNat 1) 32)) 3988292384,wrap .i64 (s2.2+1))) else some (Sum.inl (Int.fdiv s2.1 (2^min (toNat 1) 32),wrap .i64 (s2.2+1))) else some (Sum.inr s2.1)
noncomputable def F_crc_nibbles_b1 (s1:(Int×(List Int))):Option ((Int×(List Int))⊕(List Int)) :=
 if (decide (s1.1<16))=true then (loopO (F_crc_nibbles_b2) (wrap .u32 s1.1,0)).bind (fun r2=>if 0≤s1.1∧s1.1<((16:Nat):Int) then (some (Sum.inl (wrap .i64 (s1.1+1),List.set s1.2 (toNat s1.1) r2))) else none) else some (Sum.inr s1.2)
noncomputable def F_crc_nibbles:Option (List Int) :=
 (loopO (F_crc_nibbles_b1) (0,replicate 16 0)).bind (fun r1=>some r1)
theorem W_crc_nibbles {y:(List Int)} (F0:F_crc_nibbles=some y):Pure Tryz.prog 188 [] (.v (.arr 16 (.int .u32)) y):=by
 unfold F_crc_nibbles at F0
 refine pure_of_run @Tryz.call188 @Tryz.func188 rfl rfl fun w M ho=>?_
 refine sq rfl (rg [(0,.ptr 5000 [] 0)] [(5000,.var 249 (.arr 16 (.int .u32)) (replicate 16 0))] [] [] 5000 rfl (by kernel_rfl) c0 (sq rfl (rg [(0,.ptr 5000 [] 0),(1,.ptr 5001 [] 0)] [(5000,.var 249 (.arr 16 (.int .u32)) (replicate 16 0)),(5001,.var 249 (.arr 16 (.int .u32)) (replicate 16 0))] [] [] 5001 rfl (by kernel_rfl) c0 (sq rfl (sq rfl (rg [(0,.ptr 5000 [] 0),(1,.ptr 5001 [] 0),(5,vi 0)] [(5000,.var 249 (.arr 16 (.int .u32)) (replicate 16 0)),(5001,.var 249 (.arr 16 (.int .u32)) (replicate 16 0))] [] [] 5002 rfl (by kernel_rfl) c0 (bk rfl ?_)))))))
 obtain ⟨r1,hl1,F0⟩:=obd F0
 refine run_cutx 0 rfl (fun r1'=>r1=r1') (fun r1=>[(0,.ptr 5000 [] 0),(1,.ptr 5001 [] 0)]) (fun r1=>[(5000,.var 249 (.arr 16 (.int .u32)) (replicate 16 0)),(5001,.var 249 (.arr 16 (.int .u32)) r1)]) (fun r1' h1=>?_) (fun J1_0=>?_)
 ·subst h1
  refine sq rfl (rg [(0,.ptr 5000 [] 0)] [(5000,.var 249 (.arr 16 (.int .u32)) r1)] [] [] 5002 rfl (by kernel_rfl) c0 ?_)
  obtain rfl:=inj F0
  exact ret_pure (q:=[.v (.arr 16 (.int .u32)) r1]) [(.arr 16 (.int .u32))] rfl rfl (by kernel_rfl)
 refine run_loop rfl (run_loopO hl1 (fun s1=>[(0,.ptr 5000 [] 0),(1,.ptr 5001 [] 0),(5,vi s1.1)]) (fun s1=>[(5000,.var 249 (.arr 16 (.int .u32)) (replicate 16 0)),(5001,.var 249 (.arr 16 (.int .u32)) s1.2)]) rfl rfl (fun s1 o1 F1 ih1 hr1=>?_))
 unfold F_crc_nibbles_b1 at F1
 refine run_again (sq rfl (rg [(0,.ptr 5000 [] 0),(1,.ptr 5001 [] 0),(5,vi s1.1),(6,vb (decide (s1.1<16)))] [(5000,.var 249 (.arr 16 (.int .u32)) (replicate 16 0)),(5001,.var 249 (.arr 16 (.int .u32)) s1.2)] [] [] 5002 rfl (by kernel_rfl) c0 (sq rfl ?_)))
 refine run_if rfl rfl (fun h2=>?_) (fun h2=>?_)
 ·replace F1:=ift h2 F1
  refine sk rfl (sq rfl (bk rfl (sq rfl (rg [(0,.ptr 5000 [] 0),(1,.ptr 5001 [] 0),(2,vi s1.1),(5,vi s1.1)] [(5000,.var 249 (.arr 16 (.int .u32)) (replicate 16 0)),(5001,.var 249 (.arr 16 (.int .u32)) s1.2)] [] [] 5002 rfl (by kernel_rfl) c0 (sq rfl (rg [(0,.ptr 5000 [] 0),(1,.ptr 5001 [] 0),(2,vi s1.1),(3,.v (.int .u32) (wrap .u32 s1.1)),(5,vi s1.1)] [(5000,.var 249 (.arr 16 (.int .u32)) (replicate 16 0)),(5001,.var 249 (.arr 16 (.int .u32)) s1.2)] [] [] 5002 rfl (by kernel_rfl) c0 (sq rfl (sq rfl (rg [(0,.ptr 5000 [] 0),(1,.ptr 5001 [] 0),(2,vi s1.1),(3,.v (.int .u32) (wrap .u32 s1.1)),(5,vi s1.1),(10,vi 0)] [(5000,.var 249 (.arr 16 (.int .u32)) (replicate 16 0)),(5001,.var 249 (.arr 16 (.int .u32)) s1.2)] [] [] 5002 rfl (by kernel_rfl) c0 (bk rfl ?_))))))))))
  obtain ⟨r2,hl2,F1⟩:=obd F1
  refine run_cutx 2 rfl (fun r2'=>r2=r2') (fun r2=>[(0,.ptr 5000 [] 0),(1,.ptr 5001 [] 0),(2,vi s1.1),(3,.v (.int .u32) r2),(5,vi s1.1)]) (fun r2=>[(5000,.var 249 (.arr 16 (.int .u32)) (replicate 16 0)),(5001,.var 249 (.arr 16 (.int .u32)) s1.2)]) (fun r2' h3=>?_) (fun J2_0=>?_)
  ·subst h3
   obtain ⟨h4,F1⟩:=ifg F1
   refine rg [(0,.ptr 5000 [] 0),(1,.ptr 5001 [] 0),(5,vi s1.1)] [(5000,.var 249 (.arr 16 (.int .u32)) (replicate 16 0)),(5001,.var 249 (.arr 16 (.int .u32)) (List.set s1.2 (toNat s1.1) r2))] [] [] 5002 rfl (by kernel_rfl) (cc h4 (cc (show offP (.arr 16 (.int .u32)) [.i (toNat s1.1)]=(0+toNat s1.1*1) from offJ (p:=[]) (q:=[]) rfl (by kernel_rfl) (by kernel_rfl) (by kernel_rfl)) (cc (oo h4 trivial) c0))) (eb (rg [(0,.ptr 5000 [] 0),(1,.ptr 5001 [] 0),(5,vi (wrap .i64 (s1.1+1)))] [(5000,.var 249 (.arr 16 (.int .u32)) (replicate 16 0)),(5001,.var 249 (.arr 16 (.int .u32)) (List.set s1.2 (toNat s1.1) r2))] [] [] 5002 rfl (by kernel_rfl) c0 ?_))
   exact ih1 _ (inj F1).symm
  refine run_loop rfl (run_loopO hl2 (fun s2=>[(0,.ptr 5000 [] 0),(1,.ptr 5001 [] 0),(2,vi s1.1),(3,.v (.int .u32) s2.1),(5,vi s1.1),(10,vi s2.2)]) (fun s2=>[(5000,.var 249 (.arr 16 (.int .u32)) (replicate 16 0)),(5001,.var 249 (.arr 16 (.int .u32)) s1.2)]) rfl rfl (fun s2 o2 F2 ih2 hr2=>?_))
  unfold F_crc_nibbles_b2 at F2
  refine run_again (sq rfl (rg [(0,.ptr 5000 [] 0),(1,.ptr 5001 [] 0),(2,vi s1.1),(3,.v (.int .u32) s2.1),(5,vi s1.1),(10,vi s2.2),(11,vb (decide (s2.2<4)))] [(5000,.var 249 (.arr 16 (.int .u32)) (replicate 16 0)),(5001,.var 249 (.arr 16 (.int .u32)) s1.2)] [] [] 5002 rfl (by kernel_rfl) c0 (sq rfl ?_)))
  refine run_if rfl rfl (fun h5=>?_) (fun h5=>?_)
  ·replace F2:=ift h5 F2
   refine sk rfl (sq rfl (bk rfl (sq rfl (rg [(0,.ptr 5000 [] 0),(1,.ptr 5001 [] 0),(2,vi s1.1),(3,.v (.int .u32) s2.1),(4,.v (.int .u32) (bits .and .u32 s2.1 1)),(5,vi s1.1),(10,vi s2.2)] [(5000,.var 249 (.arr 16 (.int .u32)) (replicate 16 0)),(5001,.var 249 (.arr 16 (.int .u32)) s1.2)] [] [] 5002 rfl (by kernel_rfl) c0 (sq rfl (rg [(0,.ptr 5000 [] 0),(1,.ptr 5001 [] 0),(2,vi s1.1),(3,.v (.int .u32) (Int.fdiv s2.1 (2^min (toNat 1) 32))),(4,.v (.int .u32) (bits .and .u32 s2.1 1)),(5,vi s1.1),(10,vi s2.2)] [(5000,.var 249 (.arr 16 (.int .u32)) (replicate 16 0)),(5001,.var 249 (.arr 16 (.int .u32)) s1.2)] [] [] 5002 rfl (by kernel_rfl) (cc (show (0:Int)≤1 from (by decide)) c0) (sq rfl (rg [(0,.ptr 5000 [] 0),(1,.ptr 5001 [] 0),(2,vi s1.1),(3,.v (.int .u32) (Int.fdiv s2.1 (2^min (toNat 1) 32))),(5,vi s1.1),(10,vi s2.2),(17,vb ((bits .and .u32 s2.1 1)==1))] [(5000,.var 249 (.arr 16 (.int .u32)) (replicate 16 0)),(5001,.var 249 (.arr 16 (.int .u32)) s1.2)] [] [] 5002 rfl (by kernel_rfl) c0 ?_))))))))
   refine run_if rfl rfl (fun h6=>?_) (fun h6=>?_)
   ·replace F2:=ift h6 F2
    refine rg [(0,.ptr 5000 [] 0),(1,.ptr 5001 [] 0),(2,vi s1.1),(3,.v (.int .u32) (bits .xor .u32 (Int.fdiv s2.1 (2^min (toNat 1) 32)) 3988292384)),(5,vi s1.1),(10,vi s2.2)] [(5000,.var 249 (.arr 16 (.int .u32)) (replicate 16 0)),(5001,.var 249 (.arr 16 (.int .u32)) s1.2)] [] [] 5002 rfl (by kernel_rfl) c0 (eb (rg [(0,.ptr 5000 [] 0),(1,.ptr 5001 [] 0),(2,vi s1.1),(3,.v (.int .u32) (bits .xor .u32 (Int.fdiv s2.1 (2^min (toNat 1) 32)) 3988292384)),(5,vi s1.1),(10,vi (wrap .i64 (s2.2+1)))] [(5000,.var 249 (.arr 16 (.int .u32)) (replicate 16 0)),(5001,.var 249 (.arr 16 (.int .u32)) s1.2)] [] [] 5002 rfl (by kernel_rfl) c0 ?_))
    exact ih2 _ (inj F2).symm
   ·replace F2:=ifn h6 F2
    refine sk rfl (eb (rg [(0,.ptr 5000 [] 0),(1,.ptr 5001 [] 0),(2,vi s1.1),(3,.v (.int .u32) (Int.fdiv s2.1 (2^min (toNat 1) 32))),(5,vi s1.1),(10,vi (wrap .i64 (s2.2+1)))] [(5000,.var 249 (.arr 16 (.int .u32)) (replicate 16 0)),(5001,.var 249 (.arr 16 (.int .u32)) s1.2)] [] [] 5002 rfl (by kernel_rfl) c0 ?_))
    exact ih2 _ (inj F2).symm
  ·replace F2:=ifn h5 F2
   refine run_exit rfl rfl (tm (ρ':=[(0,.ptr 5000 [] 0),(1,.ptr 5001 [] 0),(2,vi s1.1),(3,.v (.int .u32) s2.1),(5,vi s1.1)]) (H':=[(5000,.var 249 (.arr 16 (.int .u32)) (replicate 16 0)),(5001,.var 249 (.arr 16 (.int .u32)) s1.2)]) (by kernel_rfl) (by kernel_rfl) rfl ?_)
   exact J2_0 _ (inrI hr2 F2).symm
 ·replace F1:=ifn h2 F1
  refine run_exit rfl rfl (tm (ρ':=[(0,.ptr 5000 [] 0),(1,.ptr 5001 [] 0)]) (H':=[(5000,.var 249 (.arr 16 (.int .u32)) (replicate 16 0)),(5001,.var 249 (.arr 16 (.int .u32)) s1.2)]) (by kernel_rfl) (by kernel_rfl) rfl ?_)
  exact J1_0 _ (inrI hr1 F1).symm
noncomputable def F_crc_Of_b1 (t1:(List Int)) (x0:Str) (s1:(Int×Int)):Option ((Int×Int)⊕Int) :=
 if (decide (s1.2<((length x0:Nat):Int)))=true then if 0≤s1.2∧s1.2<((length x0:Nat):Int) then (if 0≤(bits .and .u32 (bits .xor .u32 s1.1 (wrap .u32 (((getD x0 (toNat s1.2) 0).toNat:Nat):Int))) 15)∧(bits .and .u32 (bits .xor .u32 s1.1 (wrap .u32 (((getD x0 (toNat s1.2) 0).toNat:Nat):Int))) 15)<((16:Nat):Int) then (if 0≤(bits .and .u32 (bits .xor .u32 (Int.fdiv (bits .xor .u32 s1.1 (wrap .u32 (((getD x0 (toNat s1.2) 0).toNat:Nat):Int))) (2^min (toNat 4) 32)) (getD t1 (toNat (bits .and .u32 (bits .xor .u32 s1.1 (wrap .u32 (((getD x0 (toNat s1.2) 0).toNat:Nat):Int))) 15)) 0)) 15)∧(bits .and .u32 (bits .xor .u32 (Int.fdiv (bits .xor .u32 s1.1 (wrap .u32 (((getD x0 (toNat s1.2) 0).toNat:Nat):Int))) (2^min (toNat 4) 32)) (getD t1 (toNat (bits .and .u32 (bits .xor .u32 s1.1 (wrap .u32 (((getD x0 (toNat s1.2) 0).toNat:Nat):Int))) 15)) 0)) 15)<((16:Nat):Int) then (some (Sum.inl (bits .xor .u32 (Int.fdiv (bits .xor .u32 (Int.fdiv (bits .xor .u32 s1.1 (wrap .u32 (((getD x0 (toNat s1.2) 0).toNat:Nat):Int))) (2^min (toNat 4) 32)) (getD t1 (toNat (bits .and .u32 (bits .xor .u32 s1.1 (wrap .u32 (((getD x0 (toNat s1.2) 0).toNat:Nat):Int))) 15)) 0)) (2^min (toNat 4) 32)) (getD t1 (toNat (bits .and .u32 (bits .xor .u32 (Int.fdiv (bits .xor .u32 s1.1 (wrap .u32 (((getD x0 (toNat s1.2) 0).toNat:Nat):Int))) (2^min (toNat 4) 32)) (getD t1 (toNat (bits .and .u32 (bits .xor .u32 s1.1 (wrap .u32 (((getD x0 (toNat s1.2) 0).toNat:Nat):Int))) 15)) 0)) 15)) 0),wrap .i64 (s1.2+1)))) else none) else none) else none else some (Sum.inr s1.1)
noncomputable def F_crc_Of (x0:Str):Option Int :=
 (F_crc_nibbles ).bind fun t1=>((loopO (F_crc_Of_b1 t1 x0) (4294967295,0)).bind (fun r1=>some (bits .xor .u32 4294967295 r1)))
theorem W_crc_Of {x0:Str} {y:Int} (F0:F_crc_Of x0=some y):Pure Tryz.prog 157 [vs x0] (.v (.int .u32) y):=by
 unfold F_crc_Of at F0
 refine pure_of_run @Tryz.call157 @Tryz.func157 rfl rfl fun w M ho=>?_
 refine sq rfl (rg [(0,vs x0)] [] [] [] 5000 rfl (by kernel_rfl) c0 (sq rfl ?_))
 obtain ⟨t1,h1,F0⟩:=obd F0
 refine rg [(0,vs x0),(3,.ptr 5020 [] 0)] [(5020,.var 249 (.arr 16 (.int .u32)) t1)] [(0,⟨[],.v (.arr 16 (.int .u32)) t1,none⟩)] [] 5000 rfl (by kernel_rfl) (cc (W_crc_nibbles h1) c0) (sq rfl (rg [(0,vs x0),(3,.ptr 5020 [] 0),(4,.v (.int .u32) 4294967295)] [(5020,.var 249 (.arr 16 (.int .u32)) t1)] [] [] 5021 rfl (by kernel_rfl) c0 (sq rfl (sq rfl (rg [(0,vs x0),(3,.ptr 5020 [] 0),(4,.v (.int .u32) 4294967295),(8,vi ((length x0:Nat):Int)),(9,vi 0)] [(5020,.var 249 (.arr 16 (.int .u32)) t1)] [] [] 5021 rfl (by kernel_rfl) c0 (bk rfl ?_))))))
 obtain ⟨r1,hl1,F0⟩:=obd F0
 refine run_cutx 0 rfl (fun r1'=>r1=r1') (fun r1=>[(4,.v (.int .u32) r1)]) (fun r1=>[]) (fun r1' h2=>?_) (fun J1_0=>?_)
 ·subst h2
  refine sq rfl (rg [(2,.v (.int .u32) (bits .xor .u32 4294967295 r1))] [] [] [] 5000 rfl (by kernel_rfl) c0 ?_)
  obtain rfl:=inj F0
  exact ret_pure (q:=[.v (.int .u32) (bits .xor .u32 4294967295 r1)]) [(.int .u32)] rfl rfl (by kernel_rfl)
 refine run_loop rfl (run_loopO hl1 (fun s1=>[(0,vs x0),(3,.ptr 5020 [] 0),(4,.v (.int .u32) s1.1),(8,vi ((length x0:Nat):Int)),(9,vi s1.2)]) (fun s1=>[(5020,.var 249 (.arr 16 (.int .u32)) t1)]) rfl rfl (fun s1 o1 F1 ih1 hr1=>?_))
 unfold F_crc_Of_b1 at F1
 refine run_again (sq rfl (rg [(0,vs x0),(3,.ptr 5020 [] 0),(4,.v (.int .u32) s1.1),(8,vi ((length x0:Nat):Int)),(9,vi s1.2),(10,vb (decide (s1.2<((length x0:Nat):Int))))] [(5020,.var 249 (.arr 16 (.int .u32)) t1)] [] [] 5021 rfl (by kernel_rfl) c0 (sq rfl ?_)))
 refine run_if rfl rfl (fun h3=>?_) (fun h3=>?_)
 ·replace F1:=ift h3 F1
  refine sk rfl (sq rfl (bk rfl (sq rfl (rg [(0,vs x0),(3,.ptr 5020 [] 0),(4,.v (.int .u32) s1.1),(5,vi s1.2),(8,vi ((length x0:Nat):Int)),(9,vi s1.2)] [(5020,.var 249 (.arr 16 (.int .u32)) t1)] [] [] 5021 rfl (by kernel_rfl) c0 (sq rfl ?_)))))
  obtain ⟨h4,F1⟩:=ifg F1
  refine rg [(0,vs x0),(3,.ptr 5020 [] 0),(4,.v (.int .u32) (bits .xor .u32 s1.1 (wrap .u32 (((getD x0 (toNat s1.2) 0).toNat:Nat):Int)))),(8,vi ((length x0:Nat):Int)),(9,vi s1.2)] [(5020,.var 249 (.arr 16 (.int .u32)) t1)] [] [] 5021 rfl (by kernel_rfl) (cc h4 c0) (sq rfl ?_)
  obtain ⟨h5,F1⟩:=ifg F1
  refine rg [(0,vs x0),(3,.ptr 5020 [] 0),(4,.v (.int .u32) (bits .xor .u32 (Int.fdiv (bits .xor .u32 s1.1 (wrap .u32 (((getD x0 (toNat s1.2) 0).toNat:Nat):Int))) (2^min (toNat 4) 32)) (getD t1 (toNat (bits .and .u32 (bits .xor .u32 s1.1 (wrap .u32 (((getD x0 (toNat s1.2) 0).toNat:Nat):Int))) 15)) 0))),(8,vi ((length x0:Nat):Int)),(9,vi s1.2)] [(5020,.var 249 (.arr 16 (.int .u32)) t1)] [] [] 5021 rfl (by kernel_rfl) (cc (show (0:Int)≤4 from (by decide)) (cc h5 (cc (show offP (.arr 16 (.int .u32)) [.i (toNat (bits .and .u32 (bits .xor .u32 s1.1 (wrap .u32 (((getD x0 (toNat s1.2) 0).toNat:Nat):Int))) 15))]=(0+toNat (bits .and .u32 (bits .xor .u32 s1.1 (wrap .u32 (((getD x0 (toNat s1.2) 0).toNat:Nat):Int))) 15)*1) from offJ (p:=[]) (q:=[]) rfl (by kernel_rfl) (by kernel_rfl) (by kernel_rfl)) (cc (oo h5 trivial) c0)))) ?_
  obtain ⟨h6,F1⟩:=ifg F1
  refine rg [(0,vs x0),(3,.ptr 5020 [] 0),(4,.v (.int .u32) (bits .xor .u32 (Int.fdiv (bits .xor .u32 (Int.fdiv (bits .xor .u32 s1.1 (wrap .u32 (((getD x0 (toNat s1.2) 0).toNat:Nat):Int))) (2^min (toNat 4) 32)) (getD t1 (toNat (bits .and .u32 (bits .xor .u32 s1.1 (wrap .u32 (((getD x0 (toNat s1.2) 0).toNat:Nat):Int))) 15)) 0)) (2^min (toNat 4) 32)) (getD t1 (toNat (bits .and .u32 (bits .xor .u32 (Int.fdiv (bits .xor .u32 s1.1 (wrap .u32 (((getD x0 (toNat s1.2) 0).toNat:Nat):Int))) (2^min (toNat 4) 32)) (getD t1 (toNat (bits .and .u32 (bits .xor .u32 s1.1 (wrap .u32 (((getD x0 (toNat s1.2) 0).toNat:Nat):Int))) 15)) 0)) 15)) 0))),(8,vi ((length x0:Nat):Int)),(9,vi s1.2)] [(5020,.var 249 (.arr 16 (.int .u32)) t1)] [] [] 5021 rfl (by kernel_rfl) (cc (show (0:Int)≤4 from (by decide)) (cc h6 (cc (show offP (.arr 16 (.int .u32)) [.i (toNat (bits .and .u32 (bits .xor .u32 (Int.fdiv (bits .xor .u32 s1.1 (wrap .u32 (((getD x0 (toNat s1.2) 0).toNat:Nat):Int))) (2^min (toNat 4) 32)) (getD t1 (toNat (bits .and .u32 (bits .xor .u32 s1.1 (wrap .u32 (((getD x0 (toNat s1.2) 0).toNat:Nat):Int))) 15)) 0)) 15))]=(0+toNat (bits .and .u32 (bits .xor .u32 (Int.fdiv (bits .xor .u32 s1.1 (wrap .u32 (((getD x0 (toNat s1.2) 0).toNat:Nat):Int))) (2^min (toNat 4) 32)) (getD t1 (toNat (bits .and .u32 (bits .xor .u32 s1.1 (wrap .u32 (((getD x0 (toNat s1.2) 0).toNat:Nat):Int))) 15)) 0)) 15)*1) from offJ (p:=[]) (q:=[]) rfl (by kernel_rfl) (by kernel_rfl) (by kernel_rfl)) (cc (oo h6 trivial) c0)))) (eb (rg [(0,vs x0),(3,.ptr 5020 [] 0),(4,.v (.int .u32) (bits .xor .u32 (Int.fdiv (bits .xor .u32 (Int.fdiv (bits .xor .u32 s1.1 (wrap .u32 (((getD x0 (toNat s1.2) 0).toNat:Nat):Int))) (2^min (toNat 4) 32)) (getD t1 (toNat (bits .and .u32 (bits .xor .u32 s1.1 (wrap .u32 (((getD x0 (toNat s1.2) 0).toNat:Nat):Int))) 15)) 0)) (2^min (toNat 4) 32)) (getD t1 (toNat (bits .and .u32 (bits .xor .u32 (Int.fdiv (bits .xor .u32 s1.1 (wrap .u32 (((getD x0 (toNat s1.2) 0).toNat:Nat):Int))) (2^min (toNat 4) 32)) (getD t1 (toNat (bits .and .u32 (bits .xor .u32 s1.1 (wrap .u32 (((getD x0 (toNat s1.2) 0).toNat:Nat):Int))) 15)) 0)) 15)) 0))),(8,vi ((length x0:Nat):Int)),(9,vi (wrap .i64 (s1.2+1)))] [(5020,.var 249 (.arr 16 (.int .u32)) t1)] [] [] 5021 rfl (by kernel_rfl) c0 ?_))
  exact ih1 _ (inj F1).symm
 ·replace F1:=ifn h3 F1
  refine run_exit rfl rfl (tm (ρ':=[(4,.v (.int .u32) s1.1)]) (H':=[]) (by kernel_rfl) (by kernel_rfl) rfl ?_)
  exact J1_0 _ (inrI hr1 F1).symm
noncomputable def F_crc_Seal (x0:Str):Option Str :=
 (F_crc_Of x0).bind fun t1=>(if length x0+length (iBy [wrap .u8 t1,wrap .u8 (Int.fdiv t1 (2^min (toNat 8) 32)),wrap .u8 (Int.fdiv t1 (2^min (toNat 16) 32)),wrap .u8 (Int.fdiv t1 (2^min (toNat 24) 32))])≤maxLen then (some (x0++(iBy [wrap .u8 t1,wrap .u8 (Int.fdiv t1 (2^min (toNat 8) 32)),wrap .u8 (Int.fdiv t1 (2^min (toNat 16) 32)),wrap .u8 (Int.fdiv t1 (2^min (toNat 24) 32))]))) else none)
theorem W_crc_Seal {x0:Str} {y:Str} (F0:F_crc_Seal x0=some y):Pure Tryz.prog 123 [vs x0] (vs y):=by
 unfold F_crc_Seal at F0
 refine pure_of_run @Tryz.call123 @Tryz.func123 rfl rfl fun w M ho=>?_
 refine sq rfl (rg [(0,vs x0)] [] [] [] 5000 rfl (by kernel_rfl) c0 (sq rfl ?_))
 obtain ⟨t1,h1,F0⟩:=obd F0
 refine rg [(0,vs x0),(3,.v (.int .u32) t1)] [] [(1,⟨[.v .str],.v (.int .u32) t1,none⟩)] [] 5000 rfl (by kernel_rfl) (cc (W_crc_Of h1) c0) (sq rfl ?_)
 obtain ⟨h2,F0⟩:=ifg F0
 refine rg [(2,vs (x0++(iBy [wrap .u8 t1,wrap .u8 (Int.fdiv t1 (2^min (toNat 8) 32)),wrap .u8 (Int.fdiv t1 (2^min (toNat 16) 32)),wrap .u8 (Int.fdiv t1 (2^min (toNat 24) 32))])))] [] [] [] 5000 rfl (by kernel_rfl) (cc (show (0:Int)≤8 from (by decide)) (cc (show (0:Int)≤16 from (by decide)) (cc (show (0:Int)≤24 from (by decide)) (cc h2 c0)))) ?_
 obtain rfl:=inj F0
 exact ret_pure (q:=[vs (x0++(iBy [wrap .u8 t1,wrap .u8 (Int.fdiv t1 (2^min (toNat 8) 32)),wrap .u8 (Int.fdiv t1 (2^min (toNat 16) 32)),wrap .u8 (Int.fdiv t1 (2^min (toNat 24) 32))]))]) [.str] rfl rfl (by kernel_rfl)
noncomputable def F_crc_Ok (x0:Str):Option Bool :=
 (show Option Bool from if (decide ((wrap .i64 (((length x0:Nat):Int)-4))≥0))=true then if ((0:Int)≤wrap .i64 (((length x0:Nat):Int)-4)∧0≤toNat (wrap .i64 (((length x0:Nat):Int)-4))∧toNat (wrap .i64 (((length x0:Nat):Int)-4))≤length x0) then (F_crc_Seal (drop 0 (take (toNat (wrap .i64 (((length x0:Nat):Int)-4))) x0))).bind fun t1=>(some (t1==x0)) else none else some false).bind (fun r1=>some r1)
theorem W_crc_Ok {x0:Str} {y:Bool} (F0:F_crc_Ok x0=some y):Pure Tryz.prog 162 [vs x0] (vb y):=by
 unfold F_crc_Ok at F0
 refine pure_of_run @Tryz.call162 @Tryz.func162 rfl rfl fun w M ho=>?_
 refine sq rfl (rg [(0,vs x0)] [] [] [] 5000 rfl (by kernel_rfl) c0 (sq rfl (rg [(0,vs x0),(3,vi (wrap .i64 (((length x0:Nat):Int)-4)))] [] [] [] 5000 rfl (by kernel_rfl) c0 (sq rfl ?_))))
 obtain ⟨r1,F1,F0⟩:=obd F0
 refine run_cut (fun r1'=>r1=r1') (fun r1=>[(2,vb r1)]) (fun r1=>[]) (fun r1' h1=>?_) (fun J1_0=>?_)
 ·subst h1
  obtain rfl:=inj F0
  exact ret_pure (q:=[vb r1]) [.bool] rfl rfl (by kernel_rfl)
 rcases Bool.eq_false_or_eq_true (decide ((wrap .i64 (((length x0:Nat):Int)-4))≥0)) with h2|h2
 ·replace F1:=ift h2 F1
  obtain ⟨h3,F1⟩:=ifg F1
  obtain ⟨t1,h4,F1⟩:=obd F1
  refine rg [(2,vb (t1==x0))] [] [(6,⟨[.v .str],vs t1,none⟩)] [(2,true)] 5000 rfl (by kernel_rfl) (cc h2 (cc h3.1 (cc h3.2.1 (cc h3.2.2 (cc (W_crc_Seal h4) c0))))) ?_
  exact J1_0 _ (inj F1).symm
 ·replace F1:=ifn h2 F1
  refine rg [(2,vb false)] [] [] [(2,false)] 5000 rfl (by kernel_rfl) (cc h2 c0) ?_
  exact J1_0 _ (inj F1).symm
abbrev S36:Sh:=(.st (.prod (.int .u32) (.prod (.int .u32) (.int .u32))))
abbrev S110:Sh:=(.st (.prod (.int .u32) (.prod (.int .u32) (.prod S36 (.prod (.arr 8 (.int .u32)) (.prod (.arr 8 (.int .u32)) (.prod S36 (.prod (.arr 8 (.int .u32)) (.prod .bool (.prod (.int .u32) (.prod (.int .u32) (.prod (.arr 3 (.arr 2 S39)) (.prod (.arr 3 (.arr 2 S39)) (.prod (.int .u32) (.prod (.int .u32) (.arr 3 (.arr 2 S39)))))))))))))))))
noncomputable def F_packet_Check_b2 (x0:S110.ty) (s2:Int):Option (Int⊕(Int⊕Unit)) :=
 if (decide (s2<3))=true then if 0≤s2∧s2<((3:Nat):Int) then (F_frame_Check (getD (List.set (List.set (List.set (replicate 3 (replicate 3 (replicate 2 (0,0,0,0,0,[])))) 0 x0.2.2.2.2.2.2.2.2.2.2.1) 1 x0.2.2.2.2.2.2.2.2.2.2.2.1) 2 x0.2.2.2.2.2.2.2.2.2.2.2.2.2.2) (toNat s2) (replicate 3 (replicate 2 (0,0,0,0,0,[]))))).bind fun t1=>(if (t1 != 0)=true then some (Sum.inr (Sum.inl 52)) else some (Sum.inl (wrap .i64 (s2+1)))) else none else some (Sum.inr (Sum.inr ()))
noncomputable def F_packet_Check_b1 (x0:S110.ty) (s1:Int):Option (Int⊕(Int⊕Unit)) :=
 if (decide (s1<4))=true then if 0≤s1∧s1<((4:Nat):Int) then (if (decide ((getD (List.set (List.set (List.set (List.set (replicate 4 0) 0 x0.1) 1 x0.2.2.2.2.2.2.2.2.2.2.2.2.1) 2 x0.2.2.1.2.1) 3 x0.2.2.2.2.2.1.2.1) (toNat s1) 0)≥8))=true then some (Sum.inr (Sum.inl 52)) else some (Sum.inl (wrap .i64 (s1+1)))) else none else some (Sum.inr (Sum.inr ()))
noncomputable def F_packet_Check (x0:S110.ty):Option Int :=
 (loopO (F_packet_Check_b1 x0) 0).bind (Sum.elim some (fun j11=>(loopO (F_packet_Check_b2 x0) 0).bind (Sum.elim some (fun j21=>some 0))))
theorem W_packet_Check {x0:S110.ty} {y:Int} (F0:F_packet_Check x0=some y):Pure Tryz.prog 118 [.v S110 x0] (vi y):=by
 unfold F_packet_Check at F0
 refine pure_of_run @Tryz.call118 @Tryz.func118 rfl rfl fun w M ho=>?_
 refine sq rfl (rg [(1,.ptr 5000 [] 0)] [(5000,.var 110 S110 x0)] [] [] 5000 rfl (by kernel_rfl) c0 (sq rfl (sq rfl (rg [(1,.ptr 5000 [] 0),(17,.v (.arr 4 (.int .u32)) (List.set (List.set (List.set (List.set (replicate 4 0) 0 x0.1) 1 x0.2.2.2.2.2.2.2.2.2.2.2.2.1) 2 x0.2.2.1.2.1) 3 x0.2.2.2.2.2.1.2.1)),(18,vi 0)] [(5000,.var 110 S110 x0)] [] [] 5001 rfl (by kernel_rfl) c0 (bk rfl ?_)))))
 obtain ⟨r1,hl1,F0⟩:=obd F0
 refine run_cutx 0 rfl (fun j11=>r1=Sum.inr j11) (fun j11=>[(1,.ptr 5000 [] 0)]) (fun j11=>[(5000,.var 110 S110 x0)]) (fun j11 h1=>?_) (fun J1_1=>?_)
 ·subst h1
  replace F0:=sumR F0
  refine sq rfl (sq rfl (rg [(30,.v (.arr 3 (.arr 3 (.arr 2 S39))) (List.set (List.set (List.set (replicate 3 (replicate 3 (replicate 2 (0,0,0,0,0,[])))) 0 x0.2.2.2.2.2.2.2.2.2.2.1) 1 x0.2.2.2.2.2.2.2.2.2.2.2.1) 2 x0.2.2.2.2.2.2.2.2.2.2.2.2.2.2)),(31,vi 0)] [] [] [] 5001 rfl (by kernel_rfl) c0 (bk rfl ?_)))
  obtain ⟨r2,hl2,F0⟩:=obd F0
  refine run_cutx 2 rfl (fun j21=>r2=Sum.inr j21) (fun j21=>[]) (fun j21=>[]) (fun j21 h2=>?_) (fun J2_1=>?_)
  ·subst h2
   replace F0:=sumR F0
   refine sq rfl (rg [(2,vi 0)] [] [] [] 5000 rfl (by kernel_rfl) c0 ?_)
   obtain rfl:=inj F0
   exact ret_pure (q:=[vi 0]) [(.int .i64)] rfl rfl (by kernel_rfl)
  refine run_loop rfl (run_loopO hl2 (fun s2=>[(30,.v (.arr 3 (.arr 3 (.arr 2 S39))) (List.set (List.set (List.set (replicate 3 (replicate 3 (replicate 2 (0,0,0,0,0,[])))) 0 x0.2.2.2.2.2.2.2.2.2.2.1) 1 x0.2.2.2.2.2.2.2.2.2.2.2.1) 2 x0.2.2.2.2.2.2.2.2.2.2.2.2.2.2)),(31,vi s2)]) (fun s2=>[]) rfl rfl (fun s2 o2 F1 ih2 hr2=>?_))
  unfold F_packet_Check_b2 at F1
  refine run_again (sq rfl (rg [(30,.v (.arr 3 (.arr 3 (.arr 2 S39))) (List.set (List.set (List.set (replicate 3 (replicate 3 (replicate 2 (0,0,0,0,0,[])))) 0 x0.2.2.2.2.2.2.2.2.2.2.1) 1 x0.2.2.2.2.2.2.2.2.2.2.2.1) 2 x0.2.2.2.2.2.2.2.2.2.2.2.2.2.2)),(31,vi s2),(32,vb (decide (s2<3)))] [] [] [] 5000 rfl (by kernel_rfl) c0 (sq rfl ?_)))
  refine run_if rfl rfl (fun h3=>?_) (fun h3=>?_)
  ·replace F1:=ift h3 F1
   refine sk rfl (sq rfl (bk rfl (sq rfl ?_)))
   obtain ⟨h4,F1⟩:=ifg F1
   refine rg [(6,.ptr 5020 [] 0),(30,.v (.arr 3 (.arr 3 (.arr 2 S39))) (List.set (List.set (List.set (replicate 3 (replicate 3 (replicate 2 (0,0,0,0,0,[])))) 0 x0.2.2.2.2.2.2.2.2.2.2.1) 1 x0.2.2.2.2.2.2.2.2.2.2.2.1) 2 x0.2.2.2.2.2.2.2.2.2.2.2.2.2.2)),(31,vi s2)] [(5020,.var 42 (.arr 3 (.arr 2 S39)) (getD (List.set (List.set (List.set (replicate 3 (replicate 3 (replicate 2 (0,0,0,0,0,[])))) 0 x0.2.2.2.2.2.2.2.2.2.2.1) 1 x0.2.2.2.2.2.2.2.2.2.2.2.1) 2 x0.2.2.2.2.2.2.2.2.2.2.2.2.2.2) (toNat s2) (replicate 3 (replicate 2 (0,0,0,0,0,[])))))] [] [] 5000 rfl (by kernel_rfl) (cc h4 c0) (sq rfl ?_)
   obtain ⟨t1,h5,F1⟩:=obd F1
   refine rg [(30,.v (.arr 3 (.arr 3 (.arr 2 S39))) (List.set (List.set (List.set (replicate 3 (replicate 3 (replicate 2 (0,0,0,0,0,[])))) 0 x0.2.2.2.2.2.2.2.2.2.2.1) 1 x0.2.2.2.2.2.2.2.2.2.2.2.1) 2 x0.2.2.2.2.2.2.2.2.2.2.2.2.2.2)),(31,vi s2),(36,vb (t1 != 0))] [] [(1,⟨[.v (.arr 3 (.arr 2 S39))],vi t1,none⟩)] [] 5021 rfl (by kernel_rfl) (cc (W_frame_Check h5) c0) ?_
   refine run_if rfl rfl (fun h6=>?_) (fun h6=>?_)
   ·replace F1:=ift h6 F1
    refine sq rfl (rg [(2,vi 52)] [] [] [] 5000 rfl (by kernel_rfl) c0 ?_)
    have e2:=inrI hr2 F1
    subst e2
    replace F0:=sumL F0
    obtain rfl:=inj F0
    exact ret_pure (q:=[vi 52]) [(.int .i64)] rfl rfl (by kernel_rfl)
   ·replace F1:=ifn h6 F1
    refine sk rfl (eb (rg [(30,.v (.arr 3 (.arr 3 (.arr 2 S39))) (List.set (List.set (List.set (replicate 3 (replicate 3 (replicate 2 (0,0,0,0,0,[])))) 0 x0.2.2.2.2.2.2.2.2.2.2.1) 1 x0.2.2.2.2.2.2.2.2.2.2.2.1) 2 x0.2.2.2.2.2.2.2.2.2.2.2.2.2.2)),(31,vi (wrap .i64 (s2+1)))] [] [] [] 5000 rfl (by kernel_rfl) c0 ?_))
    exact ih2 _ (inj F1).symm
  ·replace F1:=ifn h3 F1
   refine run_exit rfl rfl (tm (ρ':=[]) (H':=[]) (by kernel_rfl) (by kernel_rfl) rfl ?_)
   exact J2_1 _ (inrI hr2 F1).symm
 refine run_loop rfl (run_loopO hl1 (fun s1=>[(1,.ptr 5000 [] 0),(17,.v (.arr 4 (.int .u32)) (List.set (List.set (List.set (List.set (replicate 4 0) 0 x0.1) 1 x0.2.2.2.2.2.2.2.2.2.2.2.2.1) 2 x0.2.2.1.2.1) 3 x0.2.2.2.2.2.1.2.1)),(18,vi s1)]) (fun s1=>[(5000,.var 110 S110 x0)]) rfl rfl (fun s1 o1 F1 ih1 hr1=>?_))
 unfold F_packet_Check_b1 at F1
 refine run_again (sq rfl (rg [(1,.ptr 5000 [] 0),(17,.v (.arr 4 (.int .u32)) (List.set (List.set (List.set (List.set (replicate 4 0) 0 x0.1) 1 x0.2.2.2.2.2.2.2.2.2.2.2.2.1) 2 x0.2.2.1.2.1) 3 x0.2.2.2.2.2.1.2.1)),(18,vi s1),(19,vb (decide (s1<4)))] [(5000,.var 110 S110 x0)] [] [] 5001 rfl (by kernel_rfl) c0 (sq rfl ?_)))
 refine run_if rfl rfl (fun h7=>?_) (fun h7=>?_)
 ·replace F1:=ift h7 F1
  refine sk rfl (sq rfl (bk rfl (sq rfl ?_)))
  obtain ⟨h8,F1⟩:=ifg F1
  refine rg [(1,.ptr 5000 [] 0),(4,.v (.int .u32) (getD (List.set (List.set (List.set (List.set (replicate 4 0) 0 x0.1) 1 x0.2.2.2.2.2.2.2.2.2.2.2.2.1) 2 x0.2.2.1.2.1) 3 x0.2.2.2.2.2.1.2.1) (toNat s1) 0)),(17,.v (.arr 4 (.int .u32)) (List.set (List.set (List.set (List.set (replicate 4 0) 0 x0.1) 1 x0.2.2.2.2.2.2.2.2.2.2.2.2.1) 2 x0.2.2.1.2.1) 3 x0.2.2.2.2.2.1.2.1)),(18,vi s1)] [(5000,.var 110 S110 x0)] [] [] 5001 rfl (by kernel_rfl) (cc h8 c0) (sq rfl (rg [(1,.ptr 5000 [] 0),(17,.v (.arr 4 (.int .u32)) (List.set (List.set (List.set (List.set (replicate 4 0) 0 x0.1) 1 x0.2.2.2.2.2.2.2.2.2.2.2.2.1) 2 x0.2.2.1.2.1) 3 x0.2.2.2.2.2.1.2.1)),(18,vi s1),(22,vb (decide ((getD (List.set (List.set (List.set (List.set (replicate 4 0) 0 x0.1) 1 x0.2.2.2.2.2.2.2.2.2.2.2.2.1) 2 x0.2.2.1.2.1) 3 x0.2.2.2.2.2.1.2.1) (toNat s1) 0)≥8)))] [(5000,.var 110 S110 x0)] [] [] 5001 rfl (by kernel_rfl) c0 ?_))
  refine run_if rfl rfl (fun h9=>?_) (fun h9=>?_)
  ·replace F1:=ift h9 F1
   refine sq rfl (rg [(2,vi 52)] [] [] [] 5001 rfl (by kernel_rfl) c0 ?_)
   have e1:=inrI hr1 F1
   subst e1
   replace F0:=sumL F0
   obtain rfl:=inj F0
   exact ret_pure (q:=[vi 52]) [(.int .i64)] rfl rfl (by kernel_rfl)
  ·replace F1:=ifn h9 F1
   refine sk rfl (eb (rg [(1,.ptr 5000 [] 0),(17,.v (.arr 4 (.int .u32)) (List.set (List.set (List.set (List.set (replicate 4 0) 0 x0.1) 1 x0.2.2.2.2.2.2.2.2.2.2.2.2.1) 2 x0.2.2.1.2.1) 3 x0.2.2.2.2.2.1.2.1)),(18,vi (wrap .i64 (s1+1)))] [(5000,.var 110 S110 x0)] [] [] 5001 rfl (by kernel_rfl) c0 ?_))
   exact ih1 _ (inj F1).symm
 ·replace F1:=ifn h7 F1
  refine run_exit rfl rfl (tm (ρ':=[(1,.ptr 5000 [] 0)]) (H':=[(5000,.var 110 S110 x0)]) (by kernel_rfl) (by kernel_rfl) rfl ?_)
  exact J1_1 _ (inrI hr1 F1).symm
noncomputable def F_packet_truth (x0:Bool):Option Int :=
 if (x0)=true then some 1 else some 0
theorem W_packet_truth {x0:Bool} {y:Int} (F0:F_packet_truth x0=some y):Pure Tryz.prog 121 [vb x0] (.v (.int .u32) y):=by
 unfold F_packet_truth at F0
 refine pure_of_run @Tryz.call121 @Tryz.func121 rfl rfl fun w M ho=>?_
 refine sq rfl (rg [(0,vb x0)] [] [] [] 5000 rfl (by kernel_rfl) c0 (sq rfl (sq rfl (rg [(3,vb x0)] [] [] [] 5000 rfl (by kernel_rfl) c0 ?_))))
 refine run_if rfl rfl (fun h1=>?_) (fun h1=>?_)
 ·replace F0:=ift h1 F0
  refine sq rfl (rg [(2,.v (.int .u32) 1)] [] [] [] 5000 rfl (by kernel_rfl) c0 ?_)
  obtain rfl:=inj F0
  exact ret_pure (q:=[.v (.int .u32) 1]) [(.int .u32)] rfl rfl (by kernel_rfl)
 ·replace F0:=ifn h1 F0
  refine sk rfl (sq rfl (rg [(2,.v (.int .u32) 0)] [] [] [] 5000 rfl (by kernel_rfl) c0 ?_))
  obtain rfl:=inj F0
  exact ret_pure (q:=[.v (.int .u32) 0]) [(.int .u32)] rfl rfl (by kernel_rfl)
noncomputable def F_packet_writer_put_b1 (x1:Int) (x2:(List Int)) (s1:(Int×(List Int))):Option ((Int×(List Int))⊕(List Int)) :=
 if (decide (s1.1<((length x2:Nat):Int)))=true then if 0≤s1.1∧s1.1<((length x2:Nat):Int) then (F_pack_Put (wrap .u64 (getD x2 (toNat s1.1) 0)) x1).bind fun t1=>((F_strings_Builder_WriteString ((),s1.2) t1).bind fun t2=>(some (Sum.inl (wrap .i64 (s1.1+1),t2.2.2.2)))) else none else some (Sum.inr s1.2)
noncomputable def F_packet_writer_put (x0:S190.ty) (x1:Int) (x2:(List Int)):Option S190.ty :=
 (loopO (F_packet_writer_put_b1 x1 x2) (0,x0.2)).bind (fun r1=>some ((),r1))
theorem W_packet_writer_put {x0:S190.ty} {x1:Int} {x2:(List Int)} {y:S190.ty} (F0:F_packet_writer_put x0 x1 x2=some y):Mut Tryz.prog 119 2 [.ptr 0 [] 0,vi x1,.v (.sl (.int .u32)) x2] [(0,.var 192 O190 (0,1)),(1,.row 5 (.int .u8) x0.2)] (.tup []) [(0,.var 192 O190 (0,1001)),(1001,.row 5 (.int .u8) y.2)]:=by
 unfold F_packet_writer_put at F0
 refine mut_of_run @Tryz.call119 @Tryz.func119 rfl rfl fun b=>?_
 refine run_renF (ρ':=[(0,.ptr 0 [] 0),(1,vi x1),(2,.v (.sl (.int .u32)) x2)]) (H':=[(1001,.row 5 (.int .u8) x0.2),(0,.var 192 O190 (0,1001))]) 1 1001 rfl (by kernel_rfl) rfl rfl (by kernel_rfl) rfl (sq rfl (rg [(0,.ptr 0 [] 0),(1,vi x1),(8,.v (.sl (.int .u32)) x2),(9,vi ((length x2:Nat):Int)),(10,vi 0)] [(0,.var 192 O190 (0,1001)),(1001,.row 5 (.int .u8) x0.2)] [] [] 5000 rfl (by kernel_rfl) c0 (bk rfl ?_)))
 obtain ⟨r1,hl1,F0⟩:=obd F0
 refine run_cutx 0 rfl (fun r1'=>r1=r1') (fun r1=>[]) (fun r1=>[(0,.var 192 O190 (0,1001)),(1001,.row 5 (.int .u8) r1)]) (fun r1' h1=>?_) (fun J1_0=>?_)
 ·subst h1
  obtain rfl:=inj F0
  exact fall_mut (q:=[]) [] [0,1001] rfl (by kernel_rfl) rfl (by kernel_rfl)
 refine run_loop rfl (run_loopO hl1 (fun s1=>[(0,.ptr 0 [] 0),(1,vi x1),(8,.v (.sl (.int .u32)) x2),(9,vi ((length x2:Nat):Int)),(10,vi s1.1)]) (fun s1=>[(0,.var 192 O190 (0,1001)),(1001,.row 5 (.int .u8) s1.2)]) rfl rfl (fun s1 o1 F1 ih1 hr1=>?_))
 unfold F_packet_writer_put_b1 at F1
 refine run_again (sq rfl (rg [(0,.ptr 0 [] 0),(1,vi x1),(8,.v (.sl (.int .u32)) x2),(9,vi ((length x2:Nat):Int)),(10,vi s1.1),(11,vb (decide (s1.1<((length x2:Nat):Int))))] [(0,.var 192 O190 (0,1001)),(1001,.row 5 (.int .u8) s1.2)] [] [] 5000 rfl (by kernel_rfl) c0 (sq rfl ?_)))
 refine run_if rfl rfl (fun h2=>?_) (fun h2=>?_)
 ·replace F1:=ift h2 F1
  refine sk rfl (sq rfl (bk rfl (sq rfl ?_)))
  obtain ⟨h3,F1⟩:=ifg F1
  refine rg [(0,.ptr 0 [] 0),(1,vi x1),(7,.v (.int .u32) (getD x2 (toNat s1.1) 0)),(8,.v (.sl (.int .u32)) x2),(9,vi ((length x2:Nat):Int)),(10,vi s1.1)] [(0,.var 192 O190 (0,1001)),(1001,.row 5 (.int .u8) s1.2)] [] [] 5000 rfl (by kernel_rfl) (cc h3 c0) ?_
  obtain ⟨t1,h4,F1⟩:=obd F1
  obtain ⟨t2,h5,F1⟩:=obd F1
  refine rG [(0,.ptr 0 [] 0),(1,vi x1),(8,.v (.sl (.int .u32)) x2),(9,vi ((length x2:Nat):Int)),(10,vi s1.1)] [(0,.var 192 O190 (0,6141)),(6141,.row 5 (.int .u8) t2.2.2.2)] [(6,⟨[.v (.int .u64),.v (.int .i64)],vs t1,none⟩),(7,⟨[.v .unit,.v .str],.tup [vi t2.1,.v .any t2.2.1],some ([0,1001],[(0,.var 192 O190 (0,1001)),(1001,.row 5 (.int .u8) t2.2.2.2)])⟩)] [] 5000 rfl rfl (by kernel_rfl) (cc (W_pack_Put h4) (cc (show Mut Tryz.prog 154 2 [.ptr 0 [.u] 0,vs t1] [(0,.var 192 O190 (0,1)),(1,.row 5 (.int .u8) s1.2)] (.tup [vi t2.1,.v .any t2.2.1]) [(0,.var 192 O190 (0,1001)),(1001,.row 5 (.int .u8) t2.2.2.2)] from mut_path (p:=[]) (W_strings_Builder_WriteString (T0:=192) h5)) c0)) (run_renF (ρ':=[(0,.ptr 0 [] 0),(1,vi x1),(8,.v (.sl (.int .u32)) x2),(9,vi ((length x2:Nat):Int)),(10,vi s1.1)]) (H':=[(1001,.row 5 (.int .u8) t2.2.2.2),(0,.var 192 O190 (0,1001))]) 6141 1001 rfl (by kernel_rfl) rfl rfl (by kernel_rfl) rfl (eb (rg [(0,.ptr 0 [] 0),(1,vi x1),(8,.v (.sl (.int .u32)) x2),(9,vi ((length x2:Nat):Int)),(10,vi (wrap .i64 (s1.1+1)))] [(0,.var 192 O190 (0,1001)),(1001,.row 5 (.int .u8) t2.2.2.2)] [] [] 5000 rfl (by kernel_rfl) c0 ?_)))
  exact ih1 _ (inj F1).symm
 ·replace F1:=ifn h2 F1
  refine run_exit rfl rfl (tm (ρ':=[]) (H':=[(0,.var 192 O190 (0,1001)),(1001,.row 5 (.int .u8) s1.2)]) (by kernel_rfl) (by kernel_rfl) rfl ?_)
  exact J1_0 _ (inrI hr1 F1).symm
noncomputable def F_packet_writer_id (x0:S190.ty) (x1:S36.ty):Option S190.ty :=
 (F_packet_writer_put ((),x0.2) 4 [x1.1]).bind fun t1=>((F_packet_writer_put ((),t1.2) 1 [x1.2.1]).bind fun t2=>((F_packet_writer_put ((),t2.2) 4 [x1.2.2]).bind fun t3=>(some ((),t3.2))))
theorem W_packet_writer_id {x0:S190.ty} {x1:S36.ty} {y:S190.ty} (F0:F_packet_writer_id x0 x1=some y):Mut Tryz.prog 120 2 [.ptr 0 [] 0,.v S36 x1] [(0,.var 192 O190 (0,1)),(1,.row 5 (.int .u8) x0.2)] (.tup []) [(0,.var 192 O190 (0,1001)),(1001,.row 5 (.int .u8) y.2)]:=by
 unfold F_packet_writer_id at F0
 refine mut_of_run @Tryz.call120 @Tryz.func120 rfl rfl fun b=>?_
 refine run_renF (ρ':=[(0,.ptr 0 [] 0),(1,.v S36 x1)]) (H':=[(1001,.row 5 (.int .u8) x0.2),(0,.var 192 O190 (0,1001))]) 1 1001 rfl (by kernel_rfl) rfl rfl (by kernel_rfl) rfl (sq rfl (rg [(0,.ptr 0 [] 0),(3,.ptr 5000 [] 0)] [(0,.var 192 O190 (0,1001)),(1001,.row 5 (.int .u8) x0.2),(5000,.var 36 S36 x1)] [] [] 5000 rfl (by kernel_rfl) c0 (sq rfl ?_)))
 obtain ⟨t1,h1,F0⟩:=obd F0
 refine rg [(0,.ptr 0 [] 0),(3,.ptr 5000 [] 0)] [(0,.var 192 O190 (0,6082)),(5000,.var 36 S36 x1),(6082,.row 5 (.int .u8) t1.2)] [(3,⟨[],.v (.sl (.int .u32)) [x1.1],none⟩),(4,⟨[.v .unit,.v (.int .i64),.v (.sl (.int .u32))],.tup [],some ([0,1001],[(0,.var 192 O190 (0,1001)),(1001,.row 5 (.int .u8) t1.2)])⟩)] [] 5001 rfl (by kernel_rfl) (cc (W_packet_writer_put h1) c0) (run_renF (ρ':=[(0,.ptr 0 [] 0),(3,.ptr 5000 [] 0)]) (H':=[(1001,.row 5 (.int .u8) t1.2),(0,.var 192 O190 (0,1001)),(5000,.var 36 S36 x1)]) 6082 1001 rfl (by kernel_rfl) rfl rfl (by kernel_rfl) rfl (sq rfl ?_))
 obtain ⟨t2,h2,F0⟩:=obd F0
 refine rg [(0,.ptr 0 [] 0),(3,.ptr 5000 [] 0)] [(0,.var 192 O190 (0,6082)),(5000,.var 36 S36 x1),(6082,.row 5 (.int .u8) t2.2)] [(3,⟨[],.v (.sl (.int .u32)) [x1.2.1],none⟩),(4,⟨[.v .unit,.v (.int .i64),.v (.sl (.int .u32))],.tup [],some ([0,1001],[(0,.var 192 O190 (0,1001)),(1001,.row 5 (.int .u8) t2.2)])⟩)] [] 5001 rfl (by kernel_rfl) (cc (W_packet_writer_put h2) c0) (run_renF (ρ':=[(0,.ptr 0 [] 0),(3,.ptr 5000 [] 0)]) (H':=[(1001,.row 5 (.int .u8) t2.2),(0,.var 192 O190 (0,1001)),(5000,.var 36 S36 x1)]) 6082 1001 rfl (by kernel_rfl) rfl rfl (by kernel_rfl) rfl ?_)
 obtain ⟨t3,h3,F0⟩:=obd F0
 refine rg [] [(0,.var 192 O190 (0,6082)),(6082,.row 5 (.int .u8) t3.2)] [(3,⟨[],.v (.sl (.int .u32)) [x1.2.2],none⟩),(4,⟨[.v .unit,.v (.int .i64),.v (.sl (.int .u32))],.tup [],some ([0,1001],[(0,.var 192 O190 (0,1001)),(1001,.row 5 (.int .u8) t3.2)])⟩)] [] 5001 rfl (by kernel_rfl) (cc (W_packet_writer_put h3) c0) (run_renF (ρ':=[]) (H':=[(1001,.row 5 (.int .u8) t3.2),(0,.var 192 O190 (0,1001))]) 6082 1001 rfl (by kernel_rfl) rfl rfl (by kernel_rfl) rfl (tm (ρ':=[]) (H':=[(0,.var 192 O190 (0,1001)),(1001,.row 5 (.int .u8) t3.2)]) (by kernel_rfl) (by kernel_rfl) rfl ?_))
 obtain rfl:=inj F0
 exact fall_mut (q:=[]) [] [0,1001] rfl (by kernel_rfl) rfl (by kernel_rfl)
noncomputable def F_packet_writer_frames_b1 (x1:(List (List (List S39.ty)))) (s1:(Int×(List Int))):Option ((Int×(List Int))⊕(List Int)) :=
 if (decide (s1.1<((length x1:Nat):Int)))=true then if 0≤s1.1∧s1.1<((length x1:Nat):Int) then (F_frame_Encode (getD x1 (toNat s1.1) (replicate 3 (replicate 2 (0,0,0,0,0,[]))))).bind fun t1=>((F_strings_Builder_WriteString ((),s1.2) t1.1).bind fun t2=>(some (Sum.inl (wrap .i64 (s1.1+1),t2.2.2.2)))) else none else some (Sum.inr s1.2)
noncomputable def F_packet_writer_frames (x0:S190.ty) (x1:(List (List (List S39.ty)))):Option S190.ty :=
 (loopO (F_packet_writer_frames_b1 x1) (0,x0.2)).bind (fun r1=>some ((),r1))
theorem W_packet_writer_frames {x0:S190.ty} {x1:(List (List (List S39.ty)))} {y:S190.ty} (F0:F_packet_writer_frames x0 x1=some y):Mut Tryz.prog 122 2 [.ptr 0 [] 0,.v (.sl (.arr 3 (.arr 2 S39))) x1] [(0,.var 192 O190 (0,1)),(1,.row 5 (.int .u8) x0.2)] (.tup []) [(0,.var 192 O190 (0,1001)),(1001,.row 5 (.int .u8) y.2)]:=by
 unfold F_packet_writer_frames at F0
 refine mut_of_run @Tryz.call122 @Tryz.func122 rfl rfl fun b=>?_
 refine run_renF (ρ':=[(0,.ptr 0 [] 0),(1,.v (.sl (.arr 3 (.arr 2 S39))) x1)]) (H':=[(1001,.row 5 (.int .u8) x0.2),(0,.var 192 O190 (0,1001))]) 1 1001 rfl (by kernel_rfl) rfl rfl (by kernel_rfl) rfl (sq rfl (rg [(0,.ptr 0 [] 0),(8,.v (.sl (.arr 3 (.arr 2 S39))) x1),(9,vi ((length x1:Nat):Int)),(10,vi 0)] [(0,.var 192 O190 (0,1001)),(1001,.row 5 (.int .u8) x0.2)] [] [] 5000 rfl (by kernel_rfl) c0 (bk rfl ?_)))
 obtain ⟨r1,hl1,F0⟩:=obd F0
 refine run_cutx 0 rfl (fun r1'=>r1=r1') (fun r1=>[]) (fun r1=>[(0,.var 192 O190 (0,1001)),(1001,.row 5 (.int .u8) r1)]) (fun r1' h1=>?_) (fun J1_0=>?_)
 ·subst h1
  obtain rfl:=inj F0
  exact fall_mut (q:=[]) [] [0,1001] rfl (by kernel_rfl) rfl (by kernel_rfl)
 refine run_loop rfl (run_loopO hl1 (fun s1=>[(0,.ptr 0 [] 0),(8,.v (.sl (.arr 3 (.arr 2 S39))) x1),(9,vi ((length x1:Nat):Int)),(10,vi s1.1)]) (fun s1=>[(0,.var 192 O190 (0,1001)),(1001,.row 5 (.int .u8) s1.2)]) rfl rfl (fun s1 o1 F1 ih1 hr1=>?_))
 unfold F_packet_writer_frames_b1 at F1
 refine run_again (sq rfl (rg [(0,.ptr 0 [] 0),(8,.v (.sl (.arr 3 (.arr 2 S39))) x1),(9,vi ((length x1:Nat):Int)),(10,vi s1.1),(11,vb (decide (s1.1<((length x1:Nat):Int))))] [(0,.var 192 O190 (0,1001)),(1001,.row 5 (.int .u8) s1.2)] [] [] 5000 rfl (by kernel_rfl) c0 (sq rfl ?_)))
 refine run_if rfl rfl (fun h2=>?_) (fun h2=>?_)
 ·replace F1:=ift h2 F1
  refine sk rfl (sq rfl (bk rfl (sq rfl ?_)))
  obtain ⟨h3,F1⟩:=ifg F1
  refine rg [(0,.ptr 0 [] 0),(5,.ptr 5040 [] 0),(8,.v (.sl (.arr 3 (.arr 2 S39))) x1),(9,vi ((length x1:Nat):Int)),(10,vi s1.1)] [(0,.var 192 O190 (0,1001)),(1001,.row 5 (.int .u8) s1.2),(5040,.var 42 (.arr 3 (.arr 2 S39)) (getD x1 (toNat s1.1) (replicate 3 (replicate 2 (0,0,0,0,0,[])))))] [] [] 5000 rfl (by kernel_rfl) (cc h3 c0) (sq rfl ?_)
  obtain ⟨t1,h4,F1⟩:=obd F1
  refine rg [(0,.ptr 0 [] 0),(6,vs t1.1),(8,.v (.sl (.arr 3 (.arr 2 S39))) x1),(9,vi ((length x1:Nat):Int)),(10,vi s1.1)] [(0,.var 192 O190 (0,1001)),(1001,.row 5 (.int .u8) s1.2)] [(1,⟨[.v (.arr 3 (.arr 2 S39))],.tup [vs t1.1,vi t1.2],none⟩)] [] 5041 rfl (by kernel_rfl) (cc (W_frame_Encode h4) c0) ?_
  obtain ⟨t2,h5,F1⟩:=obd F1
  refine rg [(0,.ptr 0 [] 0),(8,.v (.sl (.arr 3 (.arr 2 S39))) x1),(9,vi ((length x1:Nat):Int)),(10,vi s1.1)] [(0,.var 192 O190 (0,6081)),(6081,.row 5 (.int .u8) t2.2.2.2)] [(4,⟨[.v .unit,.v .str],.tup [vi t2.1,.v .any t2.2.1],some ([0,1001],[(0,.var 192 O190 (0,1001)),(1001,.row 5 (.int .u8) t2.2.2.2)])⟩)] [] 5000 rfl (by kernel_rfl) (cc (show Mut Tryz.prog 154 2 [.ptr 0 [.u] 0,vs t1.1] [(0,.var 192 O190 (0,1)),(1,.row 5 (.int .u8) s1.2)] (.tup [vi t2.1,.v .any t2.2.1]) [(0,.var 192 O190 (0,1001)),(1001,.row 5 (.int .u8) t2.2.2.2)] from mut_path (p:=[]) (W_strings_Builder_WriteString (T0:=192) h5)) c0) (run_renF (ρ':=[(0,.ptr 0 [] 0),(8,.v (.sl (.arr 3 (.arr 2 S39))) x1),(9,vi ((length x1:Nat):Int)),(10,vi s1.1)]) (H':=[(1001,.row 5 (.int .u8) t2.2.2.2),(0,.var 192 O190 (0,1001))]) 6081 1001 rfl (by kernel_rfl) rfl rfl (by kernel_rfl) rfl (eb (rg [(0,.ptr 0 [] 0),(8,.v (.sl (.arr 3 (.arr 2 S39))) x1),(9,vi ((length x1:Nat):Int)),(10,vi (wrap .i64 (s1.1+1)))] [(0,.var 192 O190 (0,1001)),(1001,.row 5 (.int .u8) t2.2.2.2)] [] [] 5000 rfl (by kernel_rfl) c0 ?_)))
  exact ih1 _ (inj F1).symm
 ·replace F1:=ifn h2 F1
  refine run_exit rfl rfl (tm (ρ':=[]) (H':=[(0,.var 192 O190 (0,1001)),(1001,.row 5 (.int .u8) s1.2)]) (by kernel_rfl) (by kernel_rfl) rfl ?_)
  exact J1_0 _ (inrI hr1 F1).symm
abbrev Z192:Sh:=(.st Z190)
noncomputable def F_packet_Encode (x0:S110.ty):Option (Str×Int) :=
 (F_packet_Check x0).bind fun t1=>(if (t1 != 0)=true then some ([],t1) else (F_packet_writer_put ((),[]) 1 [x0.1]).bind fun t2=>((F_packet_writer_put ((),t2.2) 4 [x0.2.1]).bind fun t3=>((F_packet_writer_id ((),t3.2) x0.2.2.1).bind fun t4=>((F_packet_writer_put ((),t4.2) 4 x0.2.2.2.1).bind fun t5=>((F_packet_writer_put ((),t5.2) 4 x0.2.2.2.2.1).bind fun t6=>((F_packet_writer_id ((),t6.2) x0.2.2.2.2.2.1).bind fun t7=>((F_packet_writer_put ((),t7.2) 4 x0.2.2.2.2.2.2.1).bind fun t8=>((F_packet_truth x0.2.2.2.2.2.2.2.1).bind fun t9=>((F_packet_writer_put ((),t8.2) 1 [t9]).bind fun t10=>((F_packet_writer_put ((),t10.2) 4 [x0.2.2.2.2.2.2.2.2.1,x0.2.2.2.2.2.2.2.2.2.1]).bind fun t11=>((F_packet_writer_frames ((),t11.2) [x0.2.2.2.2.2.2.2.2.2.2.1,x0.2.2.2.2.2.2.2.2.2.2.2.1]).bind fun t12=>((F_packet_writer_put ((),t12.2) 1 [x0.2.2.2.2.2.2.2.2.2.2.2.2.1]).bind fun t13=>((F_packet_writer_put ((),t13.2) 4 [x0.2.2.2.2.2.2.2.2.2.2.2.2.2.1]).bind fun t14=>((F_packet_writer_frames ((),t14.2) [x0.2.2.2.2.2.2.2.2.2.2.2.2.2.2]).bind fun t15=>((F_strings_Builder_String ((),t15.2)).bind fun t16=>((F_crc_Seal t16).bind fun t17=>(some (t17,0))))))))))))))))))
theorem W_packet_Encode {x0:S110.ty} {y:(Str×Int)} (F0:F_packet_Encode x0=some y):Pure Tryz.prog 88 [.v S110 x0] (.tup [vs y.1,vi y.2]):=by
 unfold F_packet_Encode at F0
 refine pure_of_run @Tryz.call88 @Tryz.func88 rfl rfl fun w M ho=>?_
 refine sq rfl (rg [(1,.ptr 5000 [] 0)] [(5000,.var 110 S110 x0)] [] [] 5000 rfl (by kernel_rfl) c0 (sq rfl (sq rfl ?_)))
 obtain ⟨t1,h1,F0⟩:=obd F0
 refine rg [(1,.ptr 5000 [] 0),(4,vi t1)] [(5000,.var 110 S110 x0)] [(1,⟨[.v S110],vi t1,none⟩)] [] 5001 rfl (by kernel_rfl) (cc (W_packet_Check h1) c0) (sq rfl (rg [(1,.ptr 5000 [] 0),(4,vi t1),(9,vb (t1 != 0))] [(5000,.var 110 S110 x0)] [] [] 5001 rfl (by kernel_rfl) c0 ?_))
 refine run_if rfl rfl (fun h2=>?_) (fun h2=>?_)
 ·replace F0:=ift h2 F0
  refine sq rfl (rg [(2,vs []),(3,vi t1)] [] [] [] 5001 rfl (by kernel_rfl) c0 ?_)
  obtain rfl:=inj F0
  exact ret_pure (q:=[vs [],vi t1]) [.str,(.int .i64)] rfl rfl (by kernel_rfl)
 ·replace F0:=ifn h2 F0
  refine sk rfl (sq rfl (rg [(1,.ptr 5000 [] 0),(5,.ptr 5021 [] 0)] [(5000,.var 110 S110 x0),(5021,.var 192 Z192 ((),()))] [] [] 5001 rfl (by kernel_rfl) c0 (run_unst (ρ':=[(1,.ptr 5000 [] 0),(5,.ptr 5021 [] 0)]) (H':=[(5000,.var 110 S110 x0),(5021,.var 192 Z190 ((),()))]) 5021 rfl (by kernel_rfl) rfl (run_npF (H':=[(5000,.var 110 S110 x0),(5021,.var 192 (.st (.prod .oref (.nl (.int .u8)))) (5021,()))]) 5021 5021 [.u,.l] rfl rfl rfl rfl rfl rfl (run_nilF (H':=[(1001,.row 5 (.int .u8) []),(5000,.var 110 S110 x0),(5021,.var 192 O190 (5021,1001))]) 5021 1001 [.u,.r] 5 (.int .u8) rfl rfl rfl rfl rfl rfl (by kernel_rfl) rfl (sq rfl ?_))))))
  obtain ⟨t2,h3,F0⟩:=obd F0
  refine rg [(1,.ptr 5000 [] 0),(5,.ptr 5021 [] 0)] [(5000,.var 110 S110 x0),(5021,.var 192 O190 (5021,6103)),(6103,.row 5 (.int .u8) t2.2)] [(3,⟨[],.v (.sl (.int .u32)) [x0.1],none⟩),(4,⟨[.v .unit,.v (.int .i64),.v (.sl (.int .u32))],.tup [],some ([5021,1001],[(0,.var 192 O190 (0,1001)),(1001,.row 5 (.int .u8) t2.2)])⟩)] [] 5022 rfl (by kernel_rfl) (cc (W_packet_writer_put h3) c0) (run_renF (ρ':=[(1,.ptr 5000 [] 0),(5,.ptr 5021 [] 0)]) (H':=[(1001,.row 5 (.int .u8) t2.2),(5000,.var 110 S110 x0),(5021,.var 192 O190 (5021,1001))]) 6103 1001 rfl (by kernel_rfl) rfl rfl (by kernel_rfl) rfl (sq rfl ?_))
  obtain ⟨t3,h4,F0⟩:=obd F0
  refine rg [(1,.ptr 5000 [] 0),(5,.ptr 5021 [] 0)] [(5000,.var 110 S110 x0),(5021,.var 192 O190 (5021,6103)),(6103,.row 5 (.int .u8) t3.2)] [(3,⟨[],.v (.sl (.int .u32)) [x0.2.1],none⟩),(4,⟨[.v .unit,.v (.int .i64),.v (.sl (.int .u32))],.tup [],some ([5021,1001],[(0,.var 192 O190 (0,1001)),(1001,.row 5 (.int .u8) t3.2)])⟩)] [] 5022 rfl (by kernel_rfl) (cc (W_packet_writer_put h4) c0) (run_renF (ρ':=[(1,.ptr 5000 [] 0),(5,.ptr 5021 [] 0)]) (H':=[(1001,.row 5 (.int .u8) t3.2),(5000,.var 110 S110 x0),(5021,.var 192 O190 (5021,1001))]) 6103 1001 rfl (by kernel_rfl) rfl rfl (by kernel_rfl) rfl (sq rfl ?_))
  obtain ⟨t4,h5,F0⟩:=obd F0
  refine rg [(1,.ptr 5000 [] 0),(5,.ptr 5021 [] 0)] [(5000,.var 110 S110 x0),(5021,.var 192 O190 (5021,6083)),(6083,.row 5 (.int .u8) t4.2)] [(3,⟨[.v .unit,.v S36],.tup [],some ([5021,1001],[(0,.var 192 O190 (0,1001)),(1001,.row 5 (.int .u8) t4.2)])⟩)] [] 5022 rfl (by kernel_rfl) (cc (W_packet_writer_id h5) c0) (run_renF (ρ':=[(1,.ptr 5000 [] 0),(5,.ptr 5021 [] 0)]) (H':=[(1001,.row 5 (.int .u8) t4.2),(5000,.var 110 S110 x0),(5021,.var 192 O190 (5021,1001))]) 6083 1001 rfl (by kernel_rfl) rfl rfl (by kernel_rfl) rfl (sq rfl ?_))
  obtain ⟨t5,h6,F0⟩:=obd F0
  refine rg [(1,.ptr 5000 [] 0),(5,.ptr 5021 [] 0)] [(5000,.var 110 S110 x0),(5021,.var 192 O190 (5021,6083)),(6083,.row 5 (.int .u8) t5.2)] [(3,⟨[.v .unit,.v (.int .i64),.v (.sl (.int .u32))],.tup [],some ([5021,1001],[(0,.var 192 O190 (0,1001)),(1001,.row 5 (.int .u8) t5.2)])⟩)] [] 5022 rfl (by kernel_rfl) (cc (W_packet_writer_put h6) c0) (run_renF (ρ':=[(1,.ptr 5000 [] 0),(5,.ptr 5021 [] 0)]) (H':=[(1001,.row 5 (.int .u8) t5.2),(5000,.var 110 S110 x0),(5021,.var 192 O190 (5021,1001))]) 6083 1001 rfl (by kernel_rfl) rfl rfl (by kernel_rfl) rfl (sq rfl ?_))
  obtain ⟨t6,h7,F0⟩:=obd F0
  refine rg [(1,.ptr 5000 [] 0),(5,.ptr 5021 [] 0)] [(5000,.var 110 S110 x0),(5021,.var 192 O190 (5021,6083)),(6083,.row 5 (.int .u8) t6.2)] [(3,⟨[.v .unit,.v (.int .i64),.v (.sl (.int .u32))],.tup [],some ([5021,1001],[(0,.var 192 O190 (0,1001)),(1001,.row 5 (.int .u8) t6.2)])⟩)] [] 5022 rfl (by kernel_rfl) (cc (W_packet_writer_put h7) c0) (run_renF (ρ':=[(1,.ptr 5000 [] 0),(5,.ptr 5021 [] 0)]) (H':=[(1001,.row 5 (.int .u8) t6.2),(5000,.var 110 S110 x0),(5021,.var 192 O190 (5021,1001))]) 6083 1001 rfl (by kernel_rfl) rfl rfl (by kernel_rfl) rfl (sq rfl ?_))
  obtain ⟨t7,h8,F0⟩:=obd F0
  refine rg [(1,.ptr 5000 [] 0),(5,.ptr 5021 [] 0)] [(5000,.var 110 S110 x0),(5021,.var 192 O190 (5021,6083)),(6083,.row 5 (.int .u8) t7.2)] [(3,⟨[.v .unit,.v S36],.tup [],some ([5021,1001],[(0,.var 192 O190 (0,1001)),(1001,.row 5 (.int .u8) t7.2)])⟩)] [] 5022 rfl (by kernel_rfl) (cc (W_packet_writer_id h8) c0) (run_renF (ρ':=[(1,.ptr 5000 [] 0),(5,.ptr 5021 [] 0)]) (H':=[(1001,.row 5 (.int .u8) t7.2),(5000,.var 110 S110 x0),(5021,.var 192 O190 (5021,1001))]) 6083 1001 rfl (by kernel_rfl) rfl rfl (by kernel_rfl) rfl (sq rfl ?_))
  obtain ⟨t8,h9,F0⟩:=obd F0
  refine rg [(1,.ptr 5000 [] 0),(5,.ptr 5021 [] 0)] [(5000,.var 110 S110 x0),(5021,.var 192 O190 (5021,6083)),(6083,.row 5 (.int .u8) t8.2)] [(3,⟨[.v .unit,.v (.int .i64),.v (.sl (.int .u32))],.tup [],some ([5021,1001],[(0,.var 192 O190 (0,1001)),(1001,.row 5 (.int .u8) t8.2)])⟩)] [] 5022 rfl (by kernel_rfl) (cc (W_packet_writer_put h9) c0) (run_renF (ρ':=[(1,.ptr 5000 [] 0),(5,.ptr 5021 [] 0)]) (H':=[(1001,.row 5 (.int .u8) t8.2),(5000,.var 110 S110 x0),(5021,.var 192 O190 (5021,1001))]) 6083 1001 rfl (by kernel_rfl) rfl rfl (by kernel_rfl) rfl (sq rfl ?_))
  obtain ⟨t9,h10,F0⟩:=obd F0
  obtain ⟨t10,h11,F0⟩:=obd F0
  refine rg [(1,.ptr 5000 [] 0),(5,.ptr 5021 [] 0)] [(5000,.var 110 S110 x0),(5021,.var 192 O190 (5021,6123)),(6123,.row 5 (.int .u8) t10.2)] [(3,⟨[.v .bool],.v (.int .u32) t9,none⟩),(4,⟨[],.v (.sl (.int .u32)) [t9],none⟩),(5,⟨[.v .unit,.v (.int .i64),.v (.sl (.int .u32))],.tup [],some ([5021,1001],[(0,.var 192 O190 (0,1001)),(1001,.row 5 (.int .u8) t10.2)])⟩)] [] 5022 rfl (by kernel_rfl) (cc (W_packet_truth h10) (cc (W_packet_writer_put h11) c0)) (run_renF (ρ':=[(1,.ptr 5000 [] 0),(5,.ptr 5021 [] 0)]) (H':=[(1001,.row 5 (.int .u8) t10.2),(5000,.var 110 S110 x0),(5021,.var 192 O190 (5021,1001))]) 6123 1001 rfl (by kernel_rfl) rfl rfl (by kernel_rfl) rfl (sq rfl ?_))
  obtain ⟨t11,h12,F0⟩:=obd F0
  refine rg [(1,.ptr 5000 [] 0),(5,.ptr 5021 [] 0)] [(5000,.var 110 S110 x0),(5021,.var 192 O190 (5021,6143)),(6143,.row 5 (.int .u8) t11.2)] [(5,⟨[],.v (.sl (.int .u32)) [x0.2.2.2.2.2.2.2.2.1,x0.2.2.2.2.2.2.2.2.2.1],none⟩),(6,⟨[.v .unit,.v (.int .i64),.v (.sl (.int .u32))],.tup [],some ([5021,1001],[(0,.var 192 O190 (0,1001)),(1001,.row 5 (.int .u8) t11.2)])⟩)] [] 5022 rfl (by kernel_rfl) (cc (W_packet_writer_put h12) c0) (run_renF (ρ':=[(1,.ptr 5000 [] 0),(5,.ptr 5021 [] 0)]) (H':=[(1001,.row 5 (.int .u8) t11.2),(5000,.var 110 S110 x0),(5021,.var 192 O190 (5021,1001))]) 6143 1001 rfl (by kernel_rfl) rfl rfl (by kernel_rfl) rfl (sq rfl ?_))
  obtain ⟨t12,h13,F0⟩:=obd F0
  refine rg [(1,.ptr 5000 [] 0),(5,.ptr 5021 [] 0)] [(5000,.var 110 S110 x0),(5021,.var 192 O190 (5021,6143)),(6143,.row 5 (.int .u8) t12.2)] [(5,⟨[],.v (.sl (.arr 3 (.arr 2 S39))) [x0.2.2.2.2.2.2.2.2.2.2.1,x0.2.2.2.2.2.2.2.2.2.2.2.1],none⟩),(6,⟨[.v .unit,.v (.sl (.arr 3 (.arr 2 S39)))],.tup [],some ([5021,1001],[(0,.var 192 O190 (0,1001)),(1001,.row 5 (.int .u8) t12.2)])⟩)] [] 5022 rfl (by kernel_rfl) (cc (W_packet_writer_frames h13) c0) (run_renF (ρ':=[(1,.ptr 5000 [] 0),(5,.ptr 5021 [] 0)]) (H':=[(1001,.row 5 (.int .u8) t12.2),(5000,.var 110 S110 x0),(5021,.var 192 O190 (5021,1001))]) 6143 1001 rfl (by kernel_rfl) rfl rfl (by kernel_rfl) rfl (sq rfl ?_))
  obtain ⟨t13,h14,F0⟩:=obd F0
  refine rg [(1,.ptr 5000 [] 0),(5,.ptr 5021 [] 0)] [(5000,.var 110 S110 x0),(5021,.var 192 O190 (5021,6103)),(6103,.row 5 (.int .u8) t13.2)] [(3,⟨[],.v (.sl (.int .u32)) [x0.2.2.2.2.2.2.2.2.2.2.2.2.1],none⟩),(4,⟨[.v .unit,.v (.int .i64),.v (.sl (.int .u32))],.tup [],some ([5021,1001],[(0,.var 192 O190 (0,1001)),(1001,.row 5 (.int .u8) t13.2)])⟩)] [] 5022 rfl (by kernel_rfl) (cc (W_packet_writer_put h14) c0) (run_renF (ρ':=[(1,.ptr 5000 [] 0),(5,.ptr 5021 [] 0)]) (H':=[(1001,.row 5 (.int .u8) t13.2),(5000,.var 110 S110 x0),(5021,.var 192 O190 (5021,1001))]) 6103 1001 rfl (by kernel_rfl) rfl rfl (by kernel_rfl) rfl (sq rfl ?_))
  obtain ⟨t14,h15,F0⟩:=obd F0
  refine rg [(1,.ptr 5000 [] 0),(5,.ptr 5021 [] 0)] [(5000,.var 110 S110 x0),(5021,.var 192 O190 (5021,6103)),(6103,.row 5 (.int .u8) t14.2)] [(3,⟨[],.v (.sl (.int .u32)) [x0.2.2.2.2.2.2.2.2.2.2.2.2.2.1],none⟩),(4,⟨[.v .unit,.v (.int .i64),.v (.sl (.int .u32))],.tup [],some ([5021,1001],[(0,.var 192 O190 (0,1001)),(1001,.row 5 (.int .u8) t14.2)])⟩)] [] 5022 rfl (by kernel_rfl) (cc (W_packet_writer_put h15) c0) (run_renF (ρ':=[(1,.ptr 5000 [] 0),(5,.ptr 5021 [] 0)]) (H':=[(1001,.row 5 (.int .u8) t14.2),(5000,.var 110 S110 x0),(5021,.var 192 O190 (5021,1001))]) 6103 1001 rfl (by kernel_rfl) rfl rfl (by kernel_rfl) rfl (sq rfl ?_))
  obtain ⟨t15,h16,F0⟩:=obd F0
  refine rg [(5,.ptr 5021 [] 0)] [(5021,.var 192 O190 (5021,6103)),(6103,.row 5 (.int .u8) t15.2)] [(3,⟨[],.v (.sl (.arr 3 (.arr 2 S39))) [x0.2.2.2.2.2.2.2.2.2.2.2.2.2.2],none⟩),(4,⟨[.v .unit,.v (.sl (.arr 3 (.arr 2 S39)))],.tup [],some ([5021,1001],[(0,.var 192 O190 (0,1001)),(1001,.row 5 (.int .u8) t15.2)])⟩)] [] 5022 rfl (by kernel_rfl) (cc (W_packet_writer_frames h16) c0) (run_renF (ρ':=[(5,.ptr 5021 [] 0)]) (H':=[(1001,.row 5 (.int .u8) t15.2),(5021,.var 192 O190 (5021,1001))]) 6103 1001 rfl (by kernel_rfl) rfl rfl (by kernel_rfl) rfl (sq rfl ?_))
  obtain ⟨t16,h17,F0⟩:=obd F0
  obtain ⟨t17,h18,F0⟩:=obd F0
  refine rg [(2,vs t17),(3,vi 0)] [] [(3,⟨[.v .unit],vs t16,some ([5021,1001],[])⟩),(4,⟨[.v .str],vs t17,none⟩)] [] 5022 rfl (by kernel_rfl) (cc (show Mut Tryz.prog 124 2 [.ptr 0 [.u] 0] [(0,.var 192 O190 (0,1)),(1,.row 5 (.int .u8) t15.2)] (vs t16) [] from mut_path (p:=[]) (W_strings_Builder_String (T0:=192) h17)) (cc (W_crc_Seal h18) c0)) ?_
  obtain rfl:=inj F0
  exact ret_pure (q:=[vs t17,vi 0]) [.str,(.int .i64)] rfl rfl (by kernel_rfl)
abbrev S230:Sh:=(.st (.prod .str (.int .i64)))
noncomputable def F_packet_reader_take (x0:S230.ty) (x1:Int):Option (Int×S230.ty) :=
 (F_pack_Take x0.1 x1).bind fun t1=>(some (wrap .u32 t1.1,t1.2.1,x0.2))
theorem W_packet_reader_take {x0:S230.ty} {x1:Int} {y:(Int×S230.ty)} (F0:F_packet_reader_take x0 x1=some y):Mut Tryz.prog 163 1 [.ptr 0 [] 0,vi x1] [(0,.var 230 S230 x0)] (.v (.int .u32) y.1) [(0,.var 230 S230 y.2)]:=by
 unfold F_packet_reader_take at F0
 refine mut_of_run @Tryz.call163 @Tryz.func163 rfl rfl fun b=>?_
 refine sq rfl (rg [(0,.ptr 0 [] 0),(1,vi x1)] [(0,.var 230 S230 x0)] [] [] 5000 rfl (by kernel_rfl) c0 (sq rfl ?_))
 obtain ⟨t1,h1,F0⟩:=obd F0
 refine rg [(0,.ptr 0 [] 0),(5,vu t1.1),(6,vs t1.2.1)] [(0,.var 230 S230 x0)] [(5,⟨[.v .str,.v (.int .i64)],.tup [vu t1.1,vs t1.2.1,vb t1.2.2],none⟩)] [] 5000 rfl (by kernel_rfl) (cc (W_pack_Take h1) c0) (sq rfl (rg [(5,vu t1.1)] [(0,.var 230 S230 (t1.2.1,x0.2))] [] [] 5000 rfl (by kernel_rfl) c0 (sq rfl (rg [(4,.v (.int .u32) (wrap .u32 t1.1))] [(0,.var 230 S230 (t1.2.1,x0.2))] [] [] 5000 rfl (by kernel_rfl) c0 ?_))))
 obtain rfl:=inj F0
 exact ret_mut (q:=[.v (.int .u32) (wrap .u32 t1.1)]) [some (.int .u32)] [0] rfl rfl (by kernel_rfl) rfl (by kernel_rfl)
noncomputable def F_packet_reader_id (x0:S230.ty):Option (S36.ty×S230.ty) :=
 (F_packet_reader_take x0 4).bind fun t1=>((F_packet_reader_take t1.2 1).bind fun t2=>((F_packet_reader_take t2.2 4).bind fun t3=>(some ((t1.1,t2.1,t3.1),t3.2))))
theorem W_packet_reader_id {x0:S230.ty} {y:(S36.ty×S230.ty)} (F0:F_packet_reader_id x0=some y):Mut Tryz.prog 164 1 [.ptr 0 [] 0] [(0,.var 230 S230 x0)] (.v S36 y.1) [(0,.var 230 S230 y.2)]:=by
 unfold F_packet_reader_id at F0
 refine mut_of_run @Tryz.call164 @Tryz.func164 rfl rfl fun b=>?_
 refine sq rfl (rg [(0,.ptr 0 [] 0),(2,.ptr 5000 [] 0)] [(0,.var 230 S230 x0),(5000,.var 36 S36 (0,0,0))] [] [] 5000 rfl (by kernel_rfl) c0 (sq rfl ?_))
 obtain ⟨t1,h1,F0⟩:=obd F0
 refine rg [(0,.ptr 0 [] 0),(2,.ptr 5000 [] 0),(3,.ptr 5061 [] 0)] [(0,.var 230 S230 t1.2),(5000,.var 36 S36 (0,0,0)),(5061,.var 36 S36 (t1.1,0,0))] [(1,⟨[.v .unit,.v (.int .i64)],.v (.int .u32) t1.1,some ([0],[(0,.var 230 S230 t1.2)])⟩)] [] 5001 rfl (by kernel_rfl) (cc (W_packet_reader_take h1) c0) (sq rfl ?_)
 obtain ⟨t2,h2,F0⟩:=obd F0
 refine rg [(0,.ptr 0 [] 0),(2,.ptr 5000 [] 0),(3,.ptr 5061 [] 0)] [(0,.var 230 S230 t2.2),(5000,.var 36 S36 (0,0,0)),(5061,.var 36 S36 (t1.1,t2.1,0))] [(1,⟨[.v .unit,.v (.int .i64)],.v (.int .u32) t2.1,some ([0],[(0,.var 230 S230 t2.2)])⟩)] [] 5062 rfl (by kernel_rfl) (cc (W_packet_reader_take h2) c0) (sq rfl ?_)
 obtain ⟨t3,h3,F0⟩:=obd F0
 refine rg [(2,.ptr 5000 [] 0),(3,.ptr 5061 [] 0)] [(0,.var 230 S230 t3.2),(5000,.var 36 S36 (0,0,0)),(5061,.var 36 S36 (t1.1,t2.1,t3.1))] [(1,⟨[.v .unit,.v (.int .i64)],.v (.int .u32) t3.1,some ([0],[(0,.var 230 S230 t3.2)])⟩)] [] 5062 rfl (by kernel_rfl) (cc (W_packet_reader_take h3) c0) (sq rfl (rg [(2,.ptr 5000 [] 0)] [(0,.var 230 S230 t3.2),(5000,.var 36 S36 (t1.1,t2.1,t3.1))] [] [] 5062 rfl (by kernel_rfl) c0 ?_))
 obtain rfl:=inj F0
 exact ret_mut (q:=[.v S36 (t1.1,t2.1,t3.1)]) [some S36] [0] rfl rfl (by kernel_rfl) rfl (by kernel_rfl)
noncomputable def F_packet_reader_eight_b1 (s1:(Int×S230.ty×(List Int))):Option ((Int×S230.ty×(List Int))⊕((List Int)×S230.ty)) :=
 if (decide (s1.1<8))=true then (F_packet_reader_take s1.2.1 4).bind fun t1=>(if 0≤s1.1∧s1.1<((8:Nat):Int) then (some (Sum.inl (wrap .i64 (s1.1+1),t1.2,List.set s1.2.2 (toNat s1.1) t1.1))) else none) else some (Sum.inr (s1.2.2,s1.2.1))
noncomputable def F_packet_reader_eight (x0:S230.ty):Option ((List Int)×S230.ty) :=
 (loopO (F_packet_reader_eight_b1) (0,x0,replicate 8 0)).bind (fun r1=>some (r1.1,r1.2))
theorem W_packet_reader_eight {x0:S230.ty} {y:((List Int)×S230.ty)} (F0:F_packet_reader_eight x0=some y):Mut Tryz.prog 165 1 [.ptr 0 [] 0] [(0,.var 230 S230 x0)] (.v (.arr 8 (.int .u32)) y.1) [(0,.var 230 S230 y.2)]:=by
 unfold F_packet_reader_eight at F0
 refine mut_of_run @Tryz.call165 @Tryz.func165 rfl rfl fun b=>?_
 refine sq rfl (rg [(0,.ptr 0 [] 0),(2,.ptr 5000 [] 0)] [(0,.var 230 S230 x0),(5000,.var 45 (.arr 8 (.int .u32)) (replicate 8 0))] [] [] 5000 rfl (by kernel_rfl) c0 (sq rfl (rg [(0,.ptr 0 [] 0),(2,.ptr 5000 [] 0),(3,.ptr 5001 [] 0)] [(0,.var 230 S230 x0),(5000,.var 45 (.arr 8 (.int .u32)) (replicate 8 0)),(5001,.var 45 (.arr 8 (.int .u32)) (replicate 8 0))] [] [] 5001 rfl (by kernel_rfl) c0 (sq rfl (sq rfl (rg [(0,.ptr 0 [] 0),(2,.ptr 5000 [] 0),(3,.ptr 5001 [] 0),(5,vi 0)] [(0,.var 230 S230 x0),(5000,.var 45 (.arr 8 (.int .u32)) (replicate 8 0)),(5001,.var 45 (.arr 8 (.int .u32)) (replicate 8 0))] [] [] 5002 rfl (by kernel_rfl) c0 (bk rfl ?_)))))))
 obtain ⟨r1,hl1,F0⟩:=obd F0
 refine run_cutx 0 rfl (fun r1'=>r1=r1') (fun r1=>[(2,.ptr 5000 [] 0),(3,.ptr 5001 [] 0)]) (fun r1=>[(0,.var 230 S230 r1.2),(5000,.var 45 (.arr 8 (.int .u32)) (replicate 8 0)),(5001,.var 45 (.arr 8 (.int .u32)) r1.1)]) (fun r1' h1=>?_) (fun J1_0=>?_)
 ·subst h1
  refine sq rfl (rg [(2,.ptr 5000 [] 0)] [(0,.var 230 S230 r1.2),(5000,.var 45 (.arr 8 (.int .u32)) r1.1)] [] [] 5002 rfl (by kernel_rfl) c0 ?_)
  obtain rfl:=inj F0
  exact ret_mut (q:=[.v (.arr 8 (.int .u32)) r1.1]) [some (.arr 8 (.int .u32))] [0] rfl rfl (by kernel_rfl) rfl (by kernel_rfl)
 refine run_loop rfl (run_loopO hl1 (fun s1=>[(0,.ptr 0 [] 0),(2,.ptr 5000 [] 0),(3,.ptr 5001 [] 0),(5,vi s1.1)]) (fun s1=>[(0,.var 230 S230 s1.2.1),(5000,.var 45 (.arr 8 (.int .u32)) (replicate 8 0)),(5001,.var 45 (.arr 8 (.int .u32)) s1.2.2)]) rfl rfl (fun s1 o1 F1 ih1 hr1=>?_))
 unfold F_packet_reader_eight_b1 at F1
 refine run_again (sq rfl (rg [(0,.ptr 0 [] 0),(2,.ptr 5000 [] 0),(3,.ptr 5001 [] 0),(5,vi s1.1),(6,vb (decide (s1.1<8)))] [(0,.var 230 S230 s1.2.1),(5000,.var 45 (.arr 8 (.int .u32)) (replicate 8 0)),(5001,.var 45 (.arr 8 (.int .u32)) s1.2.2)] [] [] 5002 rfl (by kernel_rfl) c0 (sq rfl ?_)))
 refine run_if rfl rfl (fun h2=>?_) (fun h2=>?_)
 ·replace F1:=ift h2 F1
  refine sk rfl (sq rfl (bk rfl (sq rfl (rg [(0,.ptr 0 [] 0),(2,.ptr 5000 [] 0),(3,.ptr 5001 [] 0),(4,vi s1.1),(5,vi s1.1)] [(0,.var 230 S230 s1.2.1),(5000,.var 45 (.arr 8 (.int .u32)) (replicate 8 0)),(5001,.var 45 (.arr 8 (.int .u32)) s1.2.2)] [] [] 5002 rfl (by kernel_rfl) c0 ?_))))
  obtain ⟨t1,h3,F1⟩:=obd F1
  obtain ⟨h4,F1⟩:=ifg F1
  refine rg [(0,.ptr 0 [] 0),(2,.ptr 5000 [] 0),(3,.ptr 5001 [] 0),(5,vi s1.1)] [(0,.var 230 S230 t1.2),(5000,.var 45 (.arr 8 (.int .u32)) (replicate 8 0)),(5001,.var 45 (.arr 8 (.int .u32)) (List.set s1.2.2 (toNat s1.1) t1.1))] [(2,⟨[.v .unit,.v (.int .i64)],.v (.int .u32) t1.1,some ([0],[(0,.var 230 S230 t1.2)])⟩)] [] 5002 rfl (by kernel_rfl) (cc (W_packet_reader_take h3) (cc h4 (cc (show offP (.arr 8 (.int .u32)) [.i (toNat s1.1)]=(0+toNat s1.1*1) from offJ (p:=[]) (q:=[]) rfl (by kernel_rfl) (by kernel_rfl) (by kernel_rfl)) (cc (oo h4 trivial) c0)))) (eb (rg [(0,.ptr 0 [] 0),(2,.ptr 5000 [] 0),(3,.ptr 5001 [] 0),(5,vi (wrap .i64 (s1.1+1)))] [(0,.var 230 S230 t1.2),(5000,.var 45 (.arr 8 (.int .u32)) (replicate 8 0)),(5001,.var 45 (.arr 8 (.int .u32)) (List.set s1.2.2 (toNat s1.1) t1.1))] [] [] 5002 rfl (by kernel_rfl) c0 ?_))
  exact ih1 _ (inj F1).symm
 ·replace F1:=ifn h2 F1
  refine run_exit rfl rfl (tm (ρ':=[(2,.ptr 5000 [] 0),(3,.ptr 5001 [] 0)]) (H':=[(0,.var 230 S230 s1.2.1),(5000,.var 45 (.arr 8 (.int .u32)) (replicate 8 0)),(5001,.var 45 (.arr 8 (.int .u32)) s1.2.2)]) (by kernel_rfl) (by kernel_rfl) rfl ?_)
  exact J1_0 _ (inrI hr1 F1).symm
noncomputable def F_packet_reader_frame (x0:S230.ty):Option ((List (List S39.ty))×S230.ty) :=
 if ((0:Int)≤168∧0≤toNat 168∧toNat 168≤length x0.1) then (F_frame_Decode (drop 0 (take (toNat 168) x0.1))).bind fun t1=>(if ((0:Int)≤168∧toNat 168≤length x0.1∧length x0.1≤length x0.1) then (if (t1.2 != 0)=true then some (t1.1,drop (toNat 168) (take (length x0.1) x0.1),t1.2) else some (t1.1,drop (toNat 168) (take (length x0.1) x0.1),x0.2)) else none) else none
theorem W_packet_reader_frame {x0:S230.ty} {y:((List (List S39.ty))×S230.ty)} (F0:F_packet_reader_frame x0=some y):Mut Tryz.prog 166 1 [.ptr 0 [] 0] [(0,.var 230 S230 x0)] (.v (.arr 3 (.arr 2 S39)) y.1) [(0,.var 230 S230 y.2)]:=by
 unfold F_packet_reader_frame at F0
 refine mut_of_run @Tryz.call166 @Tryz.func166 rfl rfl fun b=>?_
 refine sq rfl (rg [(0,.ptr 0 [] 0),(2,.ptr 5000 [] 0)] [(0,.var 230 S230 x0),(5000,.var 42 (.arr 3 (.arr 2 S39)) (replicate 3 (replicate 2 (0,0,0,0,0,[]))))] [] [] 5000 rfl (by kernel_rfl) c0 (sq rfl ?_))
 obtain ⟨h1,F0⟩:=ifg F0
 obtain ⟨t1,h2,F0⟩:=obd F0
 refine rg [(0,.ptr 0 [] 0),(2,.ptr 5000 [] 0),(3,.ptr 5181 [] 0),(4,vi t1.2)] [(0,.var 230 S230 x0),(5000,.var 42 (.arr 3 (.arr 2 S39)) (replicate 3 (replicate 2 (0,0,0,0,0,[])))),(5181,.var 42 (.arr 3 (.arr 2 S39)) t1.1)] [(5,⟨[.v .str],.tup [.v (.arr 3 (.arr 2 S39)) t1.1,vi t1.2],none⟩)] [] 5001 rfl (by kernel_rfl) (cc h1.1 (cc h1.2.1 (cc h1.2.2 (cc (W_frame_Decode h2) c0)))) (sq rfl ?_)
 obtain ⟨h3,F0⟩:=ifg F0
 refine rg [(0,.ptr 0 [] 0),(2,.ptr 5000 [] 0),(3,.ptr 5181 [] 0),(4,vi t1.2)] [(0,.var 230 S230 (drop (toNat 168) (take (length x0.1) x0.1),x0.2)),(5000,.var 42 (.arr 3 (.arr 2 S39)) (replicate 3 (replicate 2 (0,0,0,0,0,[])))),(5181,.var 42 (.arr 3 (.arr 2 S39)) t1.1)] [] [] 5182 rfl (by kernel_rfl) (cc h3.1 (cc h3.2.1 (cc h3.2.2 c0))) (sq rfl (sq rfl (rg [(0,.ptr 0 [] 0),(2,.ptr 5000 [] 0),(3,.ptr 5181 [] 0),(4,vi t1.2),(23,vb (t1.2 != 0))] [(0,.var 230 S230 (drop (toNat 168) (take (length x0.1) x0.1),x0.2)),(5000,.var 42 (.arr 3 (.arr 2 S39)) (replicate 3 (replicate 2 (0,0,0,0,0,[])))),(5181,.var 42 (.arr 3 (.arr 2 S39)) t1.1)] [] [] 5182 rfl (by kernel_rfl) c0 ?_)))
 refine run_if rfl rfl (fun h4=>?_) (fun h4=>?_)
 ·replace F0:=ift h4 F0
  refine rg [(2,.ptr 5000 [] 0),(3,.ptr 5181 [] 0)] [(0,.var 230 S230 (drop (toNat 168) (take (length x0.1) x0.1),t1.2)),(5000,.var 42 (.arr 3 (.arr 2 S39)) (replicate 3 (replicate 2 (0,0,0,0,0,[])))),(5181,.var 42 (.arr 3 (.arr 2 S39)) t1.1)] [] [] 5182 rfl (by kernel_rfl) c0 (sq rfl (rg [(2,.ptr 5000 [] 0)] [(0,.var 230 S230 (drop (toNat 168) (take (length x0.1) x0.1),t1.2)),(5000,.var 42 (.arr 3 (.arr 2 S39)) t1.1)] [] [] 5182 rfl (by kernel_rfl) c0 ?_))
  obtain rfl:=inj F0
  exact ret_mut (q:=[.v (.arr 3 (.arr 2 S39)) t1.1]) [some (.arr 3 (.arr 2 S39))] [0] rfl rfl (by kernel_rfl) rfl (by kernel_rfl)
 ·replace F0:=ifn h4 F0
  refine sk rfl (sq rfl (rg [(2,.ptr 5000 [] 0)] [(0,.var 230 S230 (drop (toNat 168) (take (length x0.1) x0.1),x0.2)),(5000,.var 42 (.arr 3 (.arr 2 S39)) t1.1)] [] [] 5182 rfl (by kernel_rfl) c0 ?_))
  obtain rfl:=inj F0
  exact ret_mut (q:=[.v (.arr 3 (.arr 2 S39)) t1.1]) [some (.arr 3 (.arr 2 S39))] [0] rfl rfl (by kernel_rfl) rfl (by kernel_rfl)
noncomputable def F_packet_Decode (x0:Str):Option (S110.ty×Int) :=
 if (((length x0:Nat):Int) != 641)=true then some ((0,0,(0,0,0),replicate 8 0,replicate 8 0,(0,0,0),replicate 8 0,false,0,0,replicate 3 (replicate 2 (0,0,0,0,0,[])),replicate 3 (replicate 2 (0,0,0,0,0,[])),0,0,replicate 3 (replicate 2 (0,0,0,0,0,[]))),50) else (F_crc_Ok x0).bind fun t1=>(if (!t1)=true then some ((0,0,(0,0,0),replicate 8 0,replicate 8 0,(0,0,0),replicate 8 0,false,0,0,replicate 3 (replicate 2 (0,0,0,0,0,[])),replicate 3 (replicate 2 (0,0,0,0,0,[])),0,0,replicate 3 (replicate 2 (0,0,0,0,0,[]))),51) else (F_packet_reader_take (x0,0) 1).bind fun t2=>((F_packet_reader_take t2.2 4).bind fun t3=>((F_packet_reader_id t3.2).bind fun t4=>((F_packet_reader_eight t4.2).bind fun t5=>((F_packet_reader_eight t5.2).bind fun t6=>((F_packet_reader_id t6.2).bind fun t7=>((F_packet_reader_eight t7.2).bind fun t8=>((F_packet_reader_take t8.2 1).bind fun t9=>((F_packet_reader_take t9.2 4).bind fun t10=>((F_packet_reader_take t10.2 4).bind fun t11=>((F_packet_reader_frame t11.2).bind fun t12=>((F_packet_reader_frame t12.2).bind fun t13=>((F_packet_reader_take t13.2 1).bind fun t14=>((F_packet_reader_take t14.2 4).bind fun t15=>((F_packet_reader_frame t15.2).bind fun t16=>((show Option Bool from if (t16.2.2 != 0)=true then some true else if (decide (t9.1>1))=true then some true else (F_packet_Check (t2.1,t3.1,t4.1,t5.1,t6.1,t7.1,t8.1,t9.1==1,t10.1,t11.1,t12.1,t13.1,t14.1,t15.1,t16.1)).bind fun t17=>(some (t17 != 0))).bind (fun r1=>if (r1)=true then some ((0,0,(0,0,0),replicate 8 0,replicate 8 0,(0,0,0),replicate 8 0,false,0,0,replicate 3 (replicate 2 (0,0,0,0,0,[])),replicate 3 (replicate 2 (0,0,0,0,0,[])),0,0,replicate 3 (replicate 2 (0,0,0,0,0,[]))),52) else some ((t2.1,t3.1,t4.1,t5.1,t6.1,t7.1,t8.1,t9.1==1,t10.1,t11.1,t12.1,t13.1,t14.1,t15.1,t16.1),0))))))))))))))))))
theorem W_packet_Decode {x0:Str} {y:(S110.ty×Int)} (F0:F_packet_Decode x0=some y):Pure Tryz.prog 131 [vs x0] (.tup [.v S110 y.1,vi y.2]):=by
 unfold F_packet_Decode at F0
 refine pure_of_run @Tryz.call131 @Tryz.func131 rfl rfl fun w M ho=>?_
 refine sq rfl (rg [(0,vs x0),(2,.ptr 5000 [] 0)] [(5000,.var 110 S110 (0,0,(0,0,0),replicate 8 0,replicate 8 0,(0,0,0),replicate 8 0,false,0,0,replicate 3 (replicate 2 (0,0,0,0,0,[])),replicate 3 (replicate 2 (0,0,0,0,0,[])),0,0,replicate 3 (replicate 2 (0,0,0,0,0,[]))))] [] [] 5000 rfl (by kernel_rfl) c0 (sq rfl (sq rfl (rg [(0,vs x0),(2,.ptr 5000 [] 0),(9,vb (((length x0:Nat):Int) != 641))] [(5000,.var 110 S110 (0,0,(0,0,0),replicate 8 0,replicate 8 0,(0,0,0),replicate 8 0,false,0,0,replicate 3 (replicate 2 (0,0,0,0,0,[])),replicate 3 (replicate 2 (0,0,0,0,0,[])),0,0,replicate 3 (replicate 2 (0,0,0,0,0,[]))))] [] [] 5001 rfl (by kernel_rfl) c0 ?_))))
 refine run_if rfl rfl (fun h1=>?_) (fun h1=>?_)
 ·replace F0:=ift h1 F0
  refine sq rfl (rg [(2,.ptr 5000 [] 0),(3,vi 50)] [(5000,.var 110 S110 (0,0,(0,0,0),replicate 8 0,replicate 8 0,(0,0,0),replicate 8 0,false,0,0,replicate 3 (replicate 2 (0,0,0,0,0,[])),replicate 3 (replicate 2 (0,0,0,0,0,[])),0,0,replicate 3 (replicate 2 (0,0,0,0,0,[]))))] [] [] 5001 rfl (by kernel_rfl) c0 ?_)
  obtain rfl:=inj F0
  exact ret_pure (q:=[.v S110 (0,0,(0,0,0),replicate 8 0,replicate 8 0,(0,0,0),replicate 8 0,false,0,0,replicate 3 (replicate 2 (0,0,0,0,0,[])),replicate 3 (replicate 2 (0,0,0,0,0,[])),0,0,replicate 3 (replicate 2 (0,0,0,0,0,[]))),vi 50]) [S110,(.int .i64)] rfl rfl (by kernel_rfl)
 ·replace F0:=ifn h1 F0
  refine sk rfl (sq rfl (sq rfl ?_))
  obtain ⟨t1,h2,F0⟩:=obd F0
  refine rg [(0,vs x0),(2,.ptr 5000 [] 0),(13,vb (!t1))] [(5000,.var 110 S110 (0,0,(0,0,0),replicate 8 0,replicate 8 0,(0,0,0),replicate 8 0,false,0,0,replicate 3 (replicate 2 (0,0,0,0,0,[])),replicate 3 (replicate 2 (0,0,0,0,0,[])),0,0,replicate 3 (replicate 2 (0,0,0,0,0,[]))))] [(1,⟨[.v .str],vb t1,none⟩)] [] 5001 rfl (by kernel_rfl) (cc (W_crc_Ok h2) c0) ?_
  refine run_if rfl rfl (fun h3=>?_) (fun h3=>?_)
  ·replace F0:=ift h3 F0
   refine sq rfl (rg [(2,.ptr 5000 [] 0),(3,vi 51)] [(5000,.var 110 S110 (0,0,(0,0,0),replicate 8 0,replicate 8 0,(0,0,0),replicate 8 0,false,0,0,replicate 3 (replicate 2 (0,0,0,0,0,[])),replicate 3 (replicate 2 (0,0,0,0,0,[])),0,0,replicate 3 (replicate 2 (0,0,0,0,0,[]))))] [] [] 5001 rfl (by kernel_rfl) c0 ?_)
   obtain rfl:=inj F0
   exact ret_pure (q:=[.v S110 (0,0,(0,0,0),replicate 8 0,replicate 8 0,(0,0,0),replicate 8 0,false,0,0,replicate 3 (replicate 2 (0,0,0,0,0,[])),replicate 3 (replicate 2 (0,0,0,0,0,[])),0,0,replicate 3 (replicate 2 (0,0,0,0,0,[]))),vi 51]) [S110,(.int .i64)] rfl rfl (by kernel_rfl)
  ·replace F0:=ifn h3 F0
   refine sk rfl (sq rfl (rg [(2,.ptr 5000 [] 0),(4,.ptr 5041 [] 0)] [(5000,.var 110 S110 (0,0,(0,0,0),replicate 8 0,replicate 8 0,(0,0,0),replicate 8 0,false,0,0,replicate 3 (replicate 2 (0,0,0,0,0,[])),replicate 3 (replicate 2 (0,0,0,0,0,[])),0,0,replicate 3 (replicate 2 (0,0,0,0,0,[])))),(5041,.var 230 S230 (x0,0))] [] [] 5001 rfl (by kernel_rfl) c0 (sq rfl (rg [(2,.ptr 5000 [] 0),(4,.ptr 5041 [] 0),(5,.ptr 5042 [] 0)] [(5000,.var 110 S110 (0,0,(0,0,0),replicate 8 0,replicate 8 0,(0,0,0),replicate 8 0,false,0,0,replicate 3 (replicate 2 (0,0,0,0,0,[])),replicate 3 (replicate 2 (0,0,0,0,0,[])),0,0,replicate 3 (replicate 2 (0,0,0,0,0,[])))),(5041,.var 230 S230 (x0,0)),(5042,.var 110 S110 (0,0,(0,0,0),replicate 8 0,replicate 8 0,(0,0,0),replicate 8 0,false,0,0,replicate 3 (replicate 2 (0,0,0,0,0,[])),replicate 3 (replicate 2 (0,0,0,0,0,[])),0,0,replicate 3 (replicate 2 (0,0,0,0,0,[]))))] [] [] 5042 rfl (by kernel_rfl) c0 (sq rfl ?_)))))
   obtain ⟨t2,h4,F0⟩:=obd F0
   refine rg [(2,.ptr 5000 [] 0),(4,.ptr 5041 [] 0),(5,.ptr 5042 [] 0)] [(5000,.var 110 S110 (0,0,(0,0,0),replicate 8 0,replicate 8 0,(0,0,0),replicate 8 0,false,0,0,replicate 3 (replicate 2 (0,0,0,0,0,[])),replicate 3 (replicate 2 (0,0,0,0,0,[])),0,0,replicate 3 (replicate 2 (0,0,0,0,0,[])))),(5041,.var 230 S230 t2.2),(5042,.var 110 S110 (t2.1,0,(0,0,0),replicate 8 0,replicate 8 0,(0,0,0),replicate 8 0,false,0,0,replicate 3 (replicate 2 (0,0,0,0,0,[])),replicate 3 (replicate 2 (0,0,0,0,0,[])),0,0,replicate 3 (replicate 2 (0,0,0,0,0,[]))))] [(1,⟨[.v .unit,.v (.int .i64)],.v (.int .u32) t2.1,some ([5041],[(0,.var 230 S230 t2.2)])⟩)] [] 5043 rfl (by kernel_rfl) (cc (W_packet_reader_take h4) c0) (sq rfl ?_)
   obtain ⟨t3,h5,F0⟩:=obd F0
   refine rg [(2,.ptr 5000 [] 0),(4,.ptr 5041 [] 0),(5,.ptr 5042 [] 0)] [(5000,.var 110 S110 (0,0,(0,0,0),replicate 8 0,replicate 8 0,(0,0,0),replicate 8 0,false,0,0,replicate 3 (replicate 2 (0,0,0,0,0,[])),replicate 3 (replicate 2 (0,0,0,0,0,[])),0,0,replicate 3 (replicate 2 (0,0,0,0,0,[])))),(5041,.var 230 S230 t3.2),(5042,.var 110 S110 (t2.1,t3.1,(0,0,0),replicate 8 0,replicate 8 0,(0,0,0),replicate 8 0,false,0,0,replicate 3 (replicate 2 (0,0,0,0,0,[])),replicate 3 (replicate 2 (0,0,0,0,0,[])),0,0,replicate 3 (replicate 2 (0,0,0,0,0,[]))))] [(1,⟨[.v .unit,.v (.int .i64)],.v (.int .u32) t3.1,some ([5041],[(0,.var 230 S230 t3.2)])⟩)] [] 5043 rfl (by kernel_rfl) (cc (W_packet_reader_take h5) c0) (sq rfl ?_)
   obtain ⟨t4,h6,F0⟩:=obd F0
   refine rg [(2,.ptr 5000 [] 0),(4,.ptr 5041 [] 0),(5,.ptr 5042 [] 0)] [(5000,.var 110 S110 (0,0,(0,0,0),replicate 8 0,replicate 8 0,(0,0,0),replicate 8 0,false,0,0,replicate 3 (replicate 2 (0,0,0,0,0,[])),replicate 3 (replicate 2 (0,0,0,0,0,[])),0,0,replicate 3 (replicate 2 (0,0,0,0,0,[])))),(5041,.var 230 S230 t4.2),(5042,.var 110 S110 (t2.1,t3.1,t4.1,replicate 8 0,replicate 8 0,(0,0,0),replicate 8 0,false,0,0,replicate 3 (replicate 2 (0,0,0,0,0,[])),replicate 3 (replicate 2 (0,0,0,0,0,[])),0,0,replicate 3 (replicate 2 (0,0,0,0,0,[]))))] [(1,⟨[.v .unit],.v S36 t4.1,some ([5041],[(0,.var 230 S230 t4.2)])⟩)] [] 5043 rfl (by kernel_rfl) (cc (W_packet_reader_id h6) c0) (sq rfl ?_)
   obtain ⟨t5,h7,F0⟩:=obd F0
   refine rg [(2,.ptr 5000 [] 0),(4,.ptr 5041 [] 0),(5,.ptr 5042 [] 0)] [(5000,.var 110 S110 (0,0,(0,0,0),replicate 8 0,replicate 8 0,(0,0,0),replicate 8 0,false,0,0,replicate 3 (replicate 2 (0,0,0,0,0,[])),replicate 3 (replicate 2 (0,0,0,0,0,[])),0,0,replicate 3 (replicate 2 (0,0,0,0,0,[])))),(5041,.var 230 S230 t5.2),(5042,.var 110 S110 (t2.1,t3.1,t4.1,t5.1,replicate 8 0,(0,0,0),replicate 8 0,false,0,0,replicate 3 (replicate 2 (0,0,0,0,0,[])),replicate 3 (replicate 2 (0,0,0,0,0,[])),0,0,replicate 3 (replicate 2 (0,0,0,0,0,[]))))] [(1,⟨[.v .unit],.v (.arr 8 (.int .u32)) t5.1,some ([5041],[(0,.var 230 S230 t5.2)])⟩)] [] 5043 rfl (by kernel_rfl) (cc (W_packet_reader_eight h7) c0) (sq rfl ?_)
   obtain ⟨t6,h8,F0⟩:=obd F0
   refine rg [(2,.ptr 5000 [] 0),(4,.ptr 5041 [] 0),(5,.ptr 5042 [] 0)] [(5000,.var 110 S110 (0,0,(0,0,0),replicate 8 0,replicate 8 0,(0,0,0),replicate 8 0,false,0,0,replicate 3 (replicate 2 (0,0,0,0,0,[])),replicate 3 (replicate 2 (0,0,0,0,0,[])),0,0,replicate 3 (replicate 2 (0,0,0,0,0,[])))),(5041,.var 230 S230 t6.2),(5042,.var 110 S110 (t2.1,t3.1,t4.1,t5.1,t6.1,(0,0,0),replicate 8 0,false,0,0,replicate 3 (replicate 2 (0,0,0,0,0,[])),replicate 3 (replicate 2 (0,0,0,0,0,[])),0,0,replicate 3 (replicate 2 (0,0,0,0,0,[]))))] [(1,⟨[.v .unit],.v (.arr 8 (.int .u32)) t6.1,some ([5041],[(0,.var 230 S230 t6.2)])⟩)] [] 5043 rfl (by kernel_rfl) (cc (W_packet_reader_eight h8) c0) (sq rfl ?_)
   obtain ⟨t7,h9,F0⟩:=obd F0
   refine rg [(2,.ptr 5000 [] 0),(4,.ptr 5041 [] 0),(5,.ptr 5042 [] 0)] [(5000,.var 110 S110 (0,0,(0,0,0),replicate 8 0,replicate 8 0,(0,0,0),replicate 8 0,false,0,0,replicate 3 (replicate 2 (0,0,0,0,0,[])),replicate 3 (replicate 2 (0,0,0,0,0,[])),0,0,replicate 3 (replicate 2 (0,0,0,0,0,[])))),(5041,.var 230 S230 t7.2),(5042,.var 110 S110 (t2.1,t3.1,t4.1,t5.1,t6.1,t7.1,replicate 8 0,false,0,0,replicate 3 (replicate 2 (0,0,0,0,0,[])),replicate 3 (replicate 2 (0,0,0,0,0,[])),0,0,replicate 3 (replicate 2 (0,0,0,0,0,[]))))] [(1,⟨[.v .unit],.v S36 t7.1,some ([5041],[(0,.var 230 S230 t7.2)])⟩)] [] 5043 rfl (by kernel_rfl) (cc (W_packet_reader_id h9) c0) (sq rfl ?_)
   obtain ⟨t8,h10,F0⟩:=obd F0
   refine rg [(2,.ptr 5000 [] 0),(4,.ptr 5041 [] 0),(5,.ptr 5042 [] 0)] [(5000,.var 110 S110 (0,0,(0,0,0),replicate 8 0,replicate 8 0,(0,0,0),replicate 8 0,false,0,0,replicate 3 (replicate 2 (0,0,0,0,0,[])),replicate 3 (replicate 2 (0,0,0,0,0,[])),0,0,replicate 3 (replicate 2 (0,0,0,0,0,[])))),(5041,.var 230 S230 t8.2),(5042,.var 110 S110 (t2.1,t3.1,t4.1,t5.1,t6.1,t7.1,t8.1,false,0,0,replicate 3 (replicate 2 (0,0,0,0,0,[])),replicate 3 (replicate 2 (0,0,0,0,0,[])),0,0,replicate 3 (replicate 2 (0,0,0,0,0,[]))))] [(1,⟨[.v .unit],.v (.arr 8 (.int .u32)) t8.1,some ([5041],[(0,.var 230 S230 t8.2)])⟩)] [] 5043 rfl (by kernel_rfl) (cc (W_packet_reader_eight h10) c0) (sq rfl ?_)
   obtain ⟨t9,h11,F0⟩:=obd F0
   refine rg [(2,.ptr 5000 [] 0),(4,.ptr 5041 [] 0),(5,.ptr 5042 [] 0),(6,.v (.int .u32) t9.1)] [(5000,.var 110 S110 (0,0,(0,0,0),replicate 8 0,replicate 8 0,(0,0,0),replicate 8 0,false,0,0,replicate 3 (replicate 2 (0,0,0,0,0,[])),replicate 3 (replicate 2 (0,0,0,0,0,[])),0,0,replicate 3 (replicate 2 (0,0,0,0,0,[])))),(5041,.var 230 S230 t9.2),(5042,.var 110 S110 (t2.1,t3.1,t4.1,t5.1,t6.1,t7.1,t8.1,false,0,0,replicate 3 (replicate 2 (0,0,0,0,0,[])),replicate 3 (replicate 2 (0,0,0,0,0,[])),0,0,replicate 3 (replicate 2 (0,0,0,0,0,[]))))] [(1,⟨[.v .unit,.v (.int .i64)],.v (.int .u32) t9.1,some ([5041],[(0,.var 230 S230 t9.2)])⟩)] [] 5043 rfl (by kernel_rfl) (cc (W_packet_reader_take h11) c0) (sq rfl (rg [(2,.ptr 5000 [] 0),(4,.ptr 5041 [] 0),(5,.ptr 5042 [] 0),(6,.v (.int .u32) t9.1)] [(5000,.var 110 S110 (0,0,(0,0,0),replicate 8 0,replicate 8 0,(0,0,0),replicate 8 0,false,0,0,replicate 3 (replicate 2 (0,0,0,0,0,[])),replicate 3 (replicate 2 (0,0,0,0,0,[])),0,0,replicate 3 (replicate 2 (0,0,0,0,0,[])))),(5041,.var 230 S230 t9.2),(5042,.var 110 S110 (t2.1,t3.1,t4.1,t5.1,t6.1,t7.1,t8.1,t9.1==1,0,0,replicate 3 (replicate 2 (0,0,0,0,0,[])),replicate 3 (replicate 2 (0,0,0,0,0,[])),0,0,replicate 3 (replicate 2 (0,0,0,0,0,[]))))] [] [] 5043 rfl (by kernel_rfl) c0 (sq rfl ?_)))
   obtain ⟨t10,h12,F0⟩:=obd F0
   refine rg [(2,.ptr 5000 [] 0),(4,.ptr 5041 [] 0),(5,.ptr 5042 [] 0),(6,.v (.int .u32) t9.1)] [(5000,.var 110 S110 (0,0,(0,0,0),replicate 8 0,replicate 8 0,(0,0,0),replicate 8 0,false,0,0,replicate 3 (replicate 2 (0,0,0,0,0,[])),replicate 3 (replicate 2 (0,0,0,0,0,[])),0,0,replicate 3 (replicate 2 (0,0,0,0,0,[])))),(5041,.var 230 S230 t10.2),(5042,.var 110 S110 (t2.1,t3.1,t4.1,t5.1,t6.1,t7.1,t8.1,t9.1==1,t10.1,0,replicate 3 (replicate 2 (0,0,0,0,0,[])),replicate 3 (replicate 2 (0,0,0,0,0,[])),0,0,replicate 3 (replicate 2 (0,0,0,0,0,[]))))] [(1,⟨[.v .unit,.v (.int .i64)],.v (.int .u32) t10.1,some ([5041],[(0,.var 230 S230 t10.2)])⟩)] [] 5043 rfl (by kernel_rfl) (cc (W_packet_reader_take h12) c0) (sq rfl ?_)
   obtain ⟨t11,h13,F0⟩:=obd F0
   refine rg [(2,.ptr 5000 [] 0),(4,.ptr 5041 [] 0),(5,.ptr 5042 [] 0),(6,.v (.int .u32) t9.1)] [(5000,.var 110 S110 (0,0,(0,0,0),replicate 8 0,replicate 8 0,(0,0,0),replicate 8 0,false,0,0,replicate 3 (replicate 2 (0,0,0,0,0,[])),replicate 3 (replicate 2 (0,0,0,0,0,[])),0,0,replicate 3 (replicate 2 (0,0,0,0,0,[])))),(5041,.var 230 S230 t11.2),(5042,.var 110 S110 (t2.1,t3.1,t4.1,t5.1,t6.1,t7.1,t8.1,t9.1==1,t10.1,t11.1,replicate 3 (replicate 2 (0,0,0,0,0,[])),replicate 3 (replicate 2 (0,0,0,0,0,[])),0,0,replicate 3 (replicate 2 (0,0,0,0,0,[]))))] [(1,⟨[.v .unit,.v (.int .i64)],.v (.int .u32) t11.1,some ([5041],[(0,.var 230 S230 t11.2)])⟩)] [] 5043 rfl (by kernel_rfl) (cc (W_packet_reader_take h13) c0) (sq rfl ?_)
   obtain ⟨t12,h14,F0⟩:=obd F0
   refine rg [(2,.ptr 5000 [] 0),(4,.ptr 5041 [] 0),(5,.ptr 5042 [] 0),(6,.v (.int .u32) t9.1)] [(5000,.var 110 S110 (0,0,(0,0,0),replicate 8 0,replicate 8 0,(0,0,0),replicate 8 0,false,0,0,replicate 3 (replicate 2 (0,0,0,0,0,[])),replicate 3 (replicate 2 (0,0,0,0,0,[])),0,0,replicate 3 (replicate 2 (0,0,0,0,0,[])))),(5041,.var 230 S230 t12.2),(5042,.var 110 S110 (t2.1,t3.1,t4.1,t5.1,t6.1,t7.1,t8.1,t9.1==1,t10.1,t11.1,t12.1,replicate 3 (replicate 2 (0,0,0,0,0,[])),0,0,replicate 3 (replicate 2 (0,0,0,0,0,[]))))] [(1,⟨[.v .unit],.v (.arr 3 (.arr 2 S39)) t12.1,some ([5041],[(0,.var 230 S230 t12.2)])⟩)] [] 5043 rfl (by kernel_rfl) (cc (W_packet_reader_frame h14) c0) (sq rfl ?_)
   obtain ⟨t13,h15,F0⟩:=obd F0
   refine rg [(2,.ptr 5000 [] 0),(4,.ptr 5041 [] 0),(5,.ptr 5042 [] 0),(6,.v (.int .u32) t9.1)] [(5000,.var 110 S110 (0,0,(0,0,0),replicate 8 0,replicate 8 0,(0,0,0),replicate 8 0,false,0,0,replicate 3 (replicate 2 (0,0,0,0,0,[])),replicate 3 (replicate 2 (0,0,0,0,0,[])),0,0,replicate 3 (replicate 2 (0,0,0,0,0,[])))),(5041,.var 230 S230 t13.2),(5042,.var 110 S110 (t2.1,t3.1,t4.1,t5.1,t6.1,t7.1,t8.1,t9.1==1,t10.1,t11.1,t12.1,t13.1,0,0,replicate 3 (replicate 2 (0,0,0,0,0,[]))))] [(1,⟨[.v .unit],.v (.arr 3 (.arr 2 S39)) t13.1,some ([5041],[(0,.var 230 S230 t13.2)])⟩)] [] 5043 rfl (by kernel_rfl) (cc (W_packet_reader_frame h15) c0) (sq rfl ?_)
   obtain ⟨t14,h16,F0⟩:=obd F0
   refine rg [(2,.ptr 5000 [] 0),(4,.ptr 5041 [] 0),(5,.ptr 5042 [] 0),(6,.v (.int .u32) t9.1)] [(5000,.var 110 S110 (0,0,(0,0,0),replicate 8 0,replicate 8 0,(0,0,0),replicate 8 0,false,0,0,replicate 3 (replicate 2 (0,0,0,0,0,[])),replicate 3 (replicate 2 (0,0,0,0,0,[])),0,0,replicate 3 (replicate 2 (0,0,0,0,0,[])))),(5041,.var 230 S230 t14.2),(5042,.var 110 S110 (t2.1,t3.1,t4.1,t5.1,t6.1,t7.1,t8.1,t9.1==1,t10.1,t11.1,t12.1,t13.1,t14.1,0,replicate 3 (replicate 2 (0,0,0,0,0,[]))))] [(1,⟨[.v .unit,.v (.int .i64)],.v (.int .u32) t14.1,some ([5041],[(0,.var 230 S230 t14.2)])⟩)] [] 5043 rfl (by kernel_rfl) (cc (W_packet_reader_take h16) c0) (sq rfl ?_)
   obtain ⟨t15,h17,F0⟩:=obd F0
   refine rg [(2,.ptr 5000 [] 0),(4,.ptr 5041 [] 0),(5,.ptr 5042 [] 0),(6,.v (.int .u32) t9.1)] [(5000,.var 110 S110 (0,0,(0,0,0),replicate 8 0,replicate 8 0,(0,0,0),replicate 8 0,false,0,0,replicate 3 (replicate 2 (0,0,0,0,0,[])),replicate 3 (replicate 2 (0,0,0,0,0,[])),0,0,replicate 3 (replicate 2 (0,0,0,0,0,[])))),(5041,.var 230 S230 t15.2),(5042,.var 110 S110 (t2.1,t3.1,t4.1,t5.1,t6.1,t7.1,t8.1,t9.1==1,t10.1,t11.1,t12.1,t13.1,t14.1,t15.1,replicate 3 (replicate 2 (0,0,0,0,0,[]))))] [(1,⟨[.v .unit,.v (.int .i64)],.v (.int .u32) t15.1,some ([5041],[(0,.var 230 S230 t15.2)])⟩)] [] 5043 rfl (by kernel_rfl) (cc (W_packet_reader_take h17) c0) (sq rfl ?_)
   obtain ⟨t16,h18,F0⟩:=obd F0
   refine rg [(2,.ptr 5000 [] 0),(4,.ptr 5041 [] 0),(5,.ptr 5042 [] 0),(6,.v (.int .u32) t9.1)] [(5000,.var 110 S110 (0,0,(0,0,0),replicate 8 0,replicate 8 0,(0,0,0),replicate 8 0,false,0,0,replicate 3 (replicate 2 (0,0,0,0,0,[])),replicate 3 (replicate 2 (0,0,0,0,0,[])),0,0,replicate 3 (replicate 2 (0,0,0,0,0,[])))),(5041,.var 230 S230 t16.2),(5042,.var 110 S110 (t2.1,t3.1,t4.1,t5.1,t6.1,t7.1,t8.1,t9.1==1,t10.1,t11.1,t12.1,t13.1,t14.1,t15.1,t16.1))] [(1,⟨[.v .unit],.v (.arr 3 (.arr 2 S39)) t16.1,some ([5041],[(0,.var 230 S230 t16.2)])⟩)] [] 5043 rfl (by kernel_rfl) (cc (W_packet_reader_frame h18) c0) (sq rfl (sq rfl ?_))
   obtain ⟨r1,F1,F0⟩:=obd F0
   refine run_cut (fun r1'=>r1=r1') (fun r1=>[(2,.ptr 5000 [] 0),(5,.ptr 5042 [] 0),(78,vb r1)]) (fun r1=>[(5000,.var 110 S110 (0,0,(0,0,0),replicate 8 0,replicate 8 0,(0,0,0),replicate 8 0,false,0,0,replicate 3 (replicate 2 (0,0,0,0,0,[])),replicate 3 (replicate 2 (0,0,0,0,0,[])),0,0,replicate 3 (replicate 2 (0,0,0,0,0,[])))),(5042,.var 110 S110 (t2.1,t3.1,t4.1,t5.1,t6.1,t7.1,t8.1,t9.1==1,t10.1,t11.1,t12.1,t13.1,t14.1,t15.1,t16.1))]) (fun r1' h19=>?_) (fun J1_0=>?_)
   ·subst h19
    refine run_if rfl rfl (fun h20=>?_) (fun h20=>?_)
    ·replace F0:=ift h20 F0
     refine sq rfl (rg [(2,.ptr 5000 [] 0),(3,vi 52)] [(5000,.var 110 S110 (0,0,(0,0,0),replicate 8 0,replicate 8 0,(0,0,0),replicate 8 0,false,0,0,replicate 3 (replicate 2 (0,0,0,0,0,[])),replicate 3 (replicate 2 (0,0,0,0,0,[])),0,0,replicate 3 (replicate 2 (0,0,0,0,0,[]))))] [] [] 5043 rfl (by kernel_rfl) c0 ?_)
     obtain rfl:=inj F0
     exact ret_pure (q:=[.v S110 (0,0,(0,0,0),replicate 8 0,replicate 8 0,(0,0,0),replicate 8 0,false,0,0,replicate 3 (replicate 2 (0,0,0,0,0,[])),replicate 3 (replicate 2 (0,0,0,0,0,[])),0,0,replicate 3 (replicate 2 (0,0,0,0,0,[]))),vi 52]) [S110,(.int .i64)] rfl rfl (by kernel_rfl)
    ·replace F0:=ifn h20 F0
     refine sk rfl (sq rfl (rg [(2,.ptr 5000 [] 0),(3,vi 0)] [(5000,.var 110 S110 (t2.1,t3.1,t4.1,t5.1,t6.1,t7.1,t8.1,t9.1==1,t10.1,t11.1,t12.1,t13.1,t14.1,t15.1,t16.1))] [] [] 5043 rfl (by kernel_rfl) c0 ?_))
     obtain rfl:=inj F0
     exact ret_pure (q:=[.v S110 (t2.1,t3.1,t4.1,t5.1,t6.1,t7.1,t8.1,t9.1==1,t10.1,t11.1,t12.1,t13.1,t14.1,t15.1,t16.1),vi 0]) [S110,(.int .i64)] rfl rfl (by kernel_rfl)
   rcases Bool.eq_false_or_eq_true (t16.2.2 != 0) with h21|h21
   ·replace F1:=ift h21 F1
    refine rg [(2,.ptr 5000 [] 0),(5,.ptr 5042 [] 0),(78,vb true)] [(5000,.var 110 S110 (0,0,(0,0,0),replicate 8 0,replicate 8 0,(0,0,0),replicate 8 0,false,0,0,replicate 3 (replicate 2 (0,0,0,0,0,[])),replicate 3 (replicate 2 (0,0,0,0,0,[])),0,0,replicate 3 (replicate 2 (0,0,0,0,0,[])))),(5042,.var 110 S110 (t2.1,t3.1,t4.1,t5.1,t6.1,t7.1,t8.1,t9.1==1,t10.1,t11.1,t12.1,t13.1,t14.1,t15.1,t16.1))] [] [(5,true)] 5043 rfl (by kernel_rfl) (cc h21 c0) ?_
    exact J1_0 _ (inj F1).symm
   ·replace F1:=ifn h21 F1
    rcases Bool.eq_false_or_eq_true (decide (t9.1>1)) with h22|h22
    ·replace F1:=ift h22 F1
     refine rg [(2,.ptr 5000 [] 0),(5,.ptr 5042 [] 0),(78,vb true)] [(5000,.var 110 S110 (0,0,(0,0,0),replicate 8 0,replicate 8 0,(0,0,0),replicate 8 0,false,0,0,replicate 3 (replicate 2 (0,0,0,0,0,[])),replicate 3 (replicate 2 (0,0,0,0,0,[])),0,0,replicate 3 (replicate 2 (0,0,0,0,0,[])))),(5042,.var 110 S110 (t2.1,t3.1,t4.1,t5.1,t6.1,t7.1,t8.1,t9.1==1,t10.1,t11.1,t12.1,t13.1,t14.1,t15.1,t16.1))] [] [(5,false),(9,true)] 5043 rfl (by kernel_rfl) (cc h21 (cc h22 c0)) ?_
     exact J1_0 _ (inj F1).symm
    ·replace F1:=ifn h22 F1
     obtain ⟨t17,h23,F1⟩:=obd F1
     refine rg [(2,.ptr 5000 [] 0),(5,.ptr 5042 [] 0),(78,vb (t17 != 0))] [(5000,.var 110 S110 (0,0,(0,0,0),replicate 8 0,replicate 8 0,(0,0,0),replicate 8 0,false,0,0,replicate 3 (replicate 2 (0,0,0,0,0,[])),replicate 3 (replicate 2 (0,0,0,0,0,[])),0,0,replicate 3 (replicate 2 (0,0,0,0,0,[])))),(5042,.var 110 S110 (t2.1,t3.1,t4.1,t5.1,t6.1,t7.1,t8.1,t9.1==1,t10.1,t11.1,t12.1,t13.1,t14.1,t15.1,t16.1))] [(11,⟨[.v S110],vi t17,none⟩)] [(5,false),(9,false)] 5043 rfl (by kernel_rfl) (cc h21 (cc h22 (cc (W_packet_Check h23) c0))) ?_
     exact J1_0 _ (inj F1).symm
end Go.Proofs.YtjcbamenfaoffaaGreatDoor
