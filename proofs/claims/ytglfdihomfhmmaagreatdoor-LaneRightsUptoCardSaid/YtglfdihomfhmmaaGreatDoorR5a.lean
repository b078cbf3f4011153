/- Laws of my own that the statement leans on; part R5. -/
import Derived.Test.YtglfdihomfhmmaaGreatDoorR4
set_option linter.unusedVariables false
set_option linter.unusedSimpArgs false
open List (length replicate getD drop take)
open Option.some (inj injEq)
open Int (toNat)
open Go.IntKind (wrap)
set_option maxRecDepth 100000
namespace Go.Proofs.YtglfdihomfhmmaaGreatDoor
open Go.RowKit
abbrev Z131:Sh:=(.st (.int .i64))
noncomputable def F_lane_need (x0:Int):Option (Value⊕Unit) :=
 if (x0 != 0)=true then some (Sum.inl (.iface 131 (.agg #[.int .i64 x0]):Value)) else some (Sum.inr ())
theorem W_lane_need {x0:Int} {y:(Value⊕Unit)} (F0:F_lane_need x0=some y):MutS Tryz.prog 67 0 [vi x0] [] (Sum.map id (fun y=>(.tup [],[])) y):=by
 unfold F_lane_need at F0
 refine mutS_of_run @Tryz.call67 @Tryz.func67 rfl rfl fun b=>?_
 refine sq rfl (rB [(0,vi x0),(3,vb (x0 != 0))] [] 5000 rfl c0 ?_)
 refine run_if rfl rfl (fun h1=>?_) (fun h1=>?_)
 ·replace F0:=ift h1 F0
  obtain rfl:=inj F0
  exact rgQ (T:=131) (α:=.v Z131 x0) 2 [] 5000 (.iface 131 (.agg #[.int .i64 x0])) rfl (by kernel_rfl) c0 (fun M φ u h=>by obtain ⟨_,cs,rfl,h⟩:=h;first|(obtain ⟨rfl,_⟩:=h;rfl)|(cases h;rfl)) pan_ok
 ·replace F0:=ifn h1 F0
  refine sk rfl (tm (ρ':=[]) (H':=[]) (by kernel_rfl) (by kernel_rfl) rfl ?_)
  obtain rfl:=inj F0
  exact fall_mut (q:=[]) [] [] rfl (by kernel_rfl) rfl (by kernel_rfl)
noncomputable def F_lane_refuse (x0:Bool) (x1:Int):Option (Value⊕Unit) :=
 if (x0)=true then some (Sum.inl (.iface 131 (.agg #[.int .i64 x1]):Value)) else some (Sum.inr ())
theorem W_lane_refuse {x0:Bool} {x1:Int} {y:(Value⊕Unit)} (F0:F_lane_refuse x0 x1=some y):MutS Tryz.prog 117 0 [vb x0,vi x1] [] (Sum.map id (fun y=>(.tup [],[])) y):=by
 unfold F_lane_refuse at F0
 refine mutS_of_run @Tryz.call117 @Tryz.func117 rfl rfl fun b=>?_
 refine sq rfl (rB [(1,vi x1),(4,vb x0)] [] 5000 rfl c0 ?_)
 refine run_if rfl rfl (fun h1=>?_) (fun h1=>?_)
 ·replace F0:=ift h1 F0
  obtain rfl:=inj F0
  exact rgQ (T:=131) (α:=.v Z131 x1) 2 [] 5000 (.iface 131 (.agg #[.int .i64 x1])) rfl (by kernel_rfl) c0 (fun M φ u h=>by obtain ⟨_,cs,rfl,h⟩:=h;first|(obtain ⟨rfl,_⟩:=h;rfl)|(cases h;rfl)) pan_ok
 ·replace F0:=ifn h1 F0
  refine sk rfl (tm (ρ':=[]) (H':=[]) (by kernel_rfl) (by kernel_rfl) rfl ?_)
  obtain rfl:=inj F0
  exact fall_mut (q:=[]) [] [] rfl (by kernel_rfl) rfl (by kernel_rfl)
abbrev Z167:Sh:=(.st .unit)
noncomputable def F_parse_need (x0:Bool):Option (Value⊕Unit) :=
 if (!x0)=true then some (Sum.inl (.iface 167 (.agg #[]):Value)) else some (Sum.inr ())
theorem W_parse_need {x0:Bool} {y:(Value⊕Unit)} (F0:F_parse_need x0=some y):MutS Tryz.prog 173 0 [vb x0] [] (Sum.map id (fun y=>(.tup [],[])) y):=by
 unfold F_parse_need at F0
 refine mutS_of_run @Tryz.call173 @Tryz.func173 rfl rfl fun b=>?_
 refine sq rfl (rB [(3,vb (!x0))] [] 5000 rfl c0 ?_)
 refine run_if rfl rfl (fun h1=>?_) (fun h1=>?_)
 ·replace F0:=ift h1 F0
  obtain rfl:=inj F0
  exact rgQ (T:=167) (α:=.v Z167 ()) 1 [] 5000 (.iface 167 (.agg #[])) rfl (by kernel_rfl) c0 (fun M φ u h=>by obtain ⟨_,cs,rfl,h⟩:=h;first|(obtain ⟨rfl,_⟩:=h;rfl)|(cases h;rfl)) pan_ok
 ·replace F0:=ifn h1 F0
  refine sk rfl (tm (ρ':=[]) (H':=[]) (by kernel_rfl) (by kernel_rfl) rfl ?_)
  obtain rfl:=inj F0
  exact fall_mut (q:=[]) [] [] rfl (by kernel_rfl) rfl (by kernel_rfl)
noncomputable def F_internal_stringslite_HasPrefix (x0:Str) (x1:Str):Option Bool :=
 (show Option Bool from if (decide (((length x0:Nat):Int)≥((length x1:Nat):Int)))=true then if ((0:Int)≤((length x1:Nat):Int)∧0≤toNat ((length x1:Nat):Int)∧toNat ((length x1:Nat):Int)≤length x0) then (some ((drop 0 (take (toNat ((length x1:Nat):Int)) x0))==x1)) else none else some false).bind (fun r1=>some r1)
theorem W_internal_stringslite_HasPrefix {x0:Str} {x1:Str} {y:Bool} (F0:F_internal_stringslite_HasPrefix x0 x1=some y):Pure Tryz.prog 252 [vs x0,vs x1] (vb y):=by
 unfold F_internal_stringslite_HasPrefix at F0
 refine pure_of_run @Tryz.call252 @Tryz.func252 rfl rfl fun w M ho=>?_
 obtain ⟨r1,F1,F0⟩:=obd F0
 refine sq rfl (rB [(0,vs x0),(1,vs x1)] [] 5000 rfl c0 (sq rfl ?_))
 refine run_cut (fun r1'=>r1=r1') (fun r1=>[(4,vb r1)]) (fun r1=>[]) (fun r1' h1=>?_) (fun J1_0=>?_)
 ·subst h1
  obtain rfl:=inj F0
  exact ret_pure (q:=[vb r1]) [.bool] rfl rfl (by kernel_rfl)
 rcases Bool.eq_false_or_eq_true (decide (((length x0:Nat):Int)≥((length x1:Nat):Int))) with h2|h2
 ·replace F1:=ift h2 F1
  obtain ⟨h3,F1⟩:=ifg F1
  refine rA [(4,vb ((drop 0 (take (toNat ((length x1:Nat):Int)) x0))==x1))] [] [] [(5,true)] 5000 rfl (cc h2 (cc h3.1 (cc h3.2.1 (cc h3.2.2 c0)))) ?_
  exact J1_0 _ (inj F1).symm
 ·replace F1:=ifn h2 F1
  refine rA [(4,vb false)] [] [] [(5,false)] 5000 rfl (cc h2 c0) ?_
  exact J1_0 _ (inj F1).symm
noncomputable def F_internal_stringslite_CutPrefix (x0:Str) (x1:Str):Option (Str×Bool) :=
 (F_internal_stringslite_HasPrefix x0 x1).bind fun t1=>(if (!t1)=true then some (x0,false) else if ((0:Int)≤((length x1:Nat):Int)∧toNat ((length x1:Nat):Int)≤length x0∧length x0≤length x0) then (some (drop (toNat ((length x1:Nat):Int)) (take (length x0) x0),true)) else none)
theorem W_internal_stringslite_CutPrefix {x0:Str} {x1:Str} {y:(Str×Bool)} (F0:F_internal_stringslite_CutPrefix x0 x1=some y):Pure Tryz.prog 230 [vs x0,vs x1] (.tup [vs y.1,vb y.2]):=by
 unfold F_internal_stringslite_CutPrefix at F0
 refine pure_of_run @Tryz.call230 @Tryz.func230 rfl rfl fun w M ho=>?_
 obtain ⟨t1,h1,F0⟩:=obd F0
 refine sq rfl ?_
 refine sE (oE [0,1] [] 5000 rfl (qE rfl (qE rfl (rE [0,1,9] [] [(2,⟨[.v .str,.v .str],vb t1,none⟩)] [] 5000 rfl (fA [(0,vs x0),(1,vs x1),(9,vb (!t1))] [] (cc (W_internal_stringslite_HasPrefix h1) c0) ?_)))))
 refine run_if rfl rfl (fun h2=>?_) (fun h2=>?_)
 ·replace F0:=ift h2 F0
  refine sq rfl (rB [(4,vs x0),(5,vb false)] [] 5000 rfl c0 ?_)
  obtain rfl:=inj F0
  exact ret_pure (q:=[vs x0,vb false]) [.str,.bool] rfl rfl (by kernel_rfl)
 ·replace F0:=ifn h2 F0
  obtain ⟨h3,F0⟩:=ifg F0
  refine sk rfl (sq rfl (rB [(4,vs (drop (toNat ((length x1:Nat):Int)) (take (length x0) x0))),(5,vb true)] [] 5000 rfl (cc h3.1 (cc h3.2.1 (cc h3.2.2 c0))) ?_))
  obtain rfl:=inj F0
  exact ret_pure (q:=[vs (drop (toNat ((length x1:Nat):Int)) (take (length x0) x0)),vb true]) [.str,.bool] rfl rfl (by kernel_rfl)
noncomputable def F_strings_CutPrefix (x0:Str) (x1:Str):Option (Str×Bool) :=
 (F_internal_stringslite_CutPrefix x0 x1).bind fun t1=>(some (t1.1,t1.2))
theorem W_strings_CutPrefix {x0:Str} {x1:Str} {y:(Str×Bool)} (F0:F_strings_CutPrefix x0 x1=some y):Pure Tryz.prog 208 [vs x0,vs x1] (.tup [vs y.1,vb y.2]):=by
 unfold F_strings_CutPrefix at F0
 refine pure_of_run @Tryz.call208 @Tryz.func208 rfl rfl fun w M ho=>?_
 obtain ⟨t1,h1,F0⟩:=obd F0
 refine sq rfl ?_
 refine sE (oE [0,1] [] 5000 rfl (qE rfl (rE [4,5] [] [(2,⟨[.v .str,.v .str],.tup [vs t1.1,vb t1.2],none⟩)] [] 5000 rfl (fA [(4,vs t1.1),(5,vb t1.2)] [] (cc (W_internal_stringslite_CutPrefix h1) c0) ?_))))
 obtain rfl:=inj F0
 exact ret_pure (q:=[vs t1.1,vb t1.2]) [.str,.bool] rfl rfl (by kernel_rfl)
noncomputable def F_internal_stringslite_Cut (x0:Str) (x1:Str):Option (Str×Str×Bool) :=
 (F_internal_stringslite_Index x0 x1).bind fun t1=>(if (decide (t1≥0))=true then if ((0:Int)≤t1∧0≤toNat t1∧toNat t1≤length x0) then (if ((0:Int)≤wrap .i64 (t1+((length x1:Nat):Int))∧toNat (wrap .i64 (t1+((length x1:Nat):Int)))≤length x0∧length x0≤length x0) then (some (drop 0 (take (toNat t1) x0),drop (toNat (wrap .i64 (t1+((length x1:Nat):Int)))) (take (length x0) x0),true)) else none) else none else some (x0,[],false))
theorem W_internal_stringslite_Cut {x0:Str} {x1:Str} {y:(Str×Str×Bool)} (F0:F_internal_stringslite_Cut x0 x1=some y):Pure Tryz.prog 228 [vs x0,vs x1] (.tup [vs y.1,vs y.2.1,vb y.2.2]):=by
 unfold F_internal_stringslite_Cut at F0
 refine pure_of_run @Tryz.call228 @Tryz.func228 rfl rfl fun w M ho=>?_
 obtain ⟨t1,h1,F0⟩:=obd F0
 refine sq rfl ?_
 refine sE (oE [0,1] [] 5000 rfl (qE rfl (qE rfl (rE [0,1,7] [] [(2,⟨[.v .str,.v .str],vi t1,none⟩)] [] 5000 rfl (qE rfl (oE [0,1,7,12] [] 5000 rfl (fA [(0,vs x0),(1,vs x1),(7,vi t1),(12,vb (decide (t1≥0)))] [] (cc (W_internal_stringslite_Index h1) c0) ?_)))))))
 refine run_if rfl rfl (fun h2=>?_) (fun h2=>?_)
 ·replace F0:=ift h2 F0
  obtain ⟨h3,F0⟩:=ifg F0
  obtain ⟨h4,F0⟩:=ifg F0
  refine sq rfl (rC [(4,vs (drop 0 (take (toNat t1) x0))),(5,vs (drop (toNat (wrap .i64 (t1+((length x1:Nat):Int)))) (take (length x0) x0))),(6,vb true)] [] [] [] 5000 rfl (cc h3.1 (cc h3.2.1 (cc h3.2.2 (cc h4.1 (cc h4.2.1 (cc h4.2.2 c0)))))) ?_)
  obtain rfl:=inj F0
  exact ret_pure (q:=[vs (drop 0 (take (toNat t1) x0)),vs (drop (toNat (wrap .i64 (t1+((length x1:Nat):Int)))) (take (length x0) x0)),vb true]) [.str,.str,.bool] rfl rfl (by kernel_rfl)
 ·replace F0:=ifn h2 F0
  refine sk rfl (sq rfl (rB [(4,vs x0),(5,vs []),(6,vb false)] [] 5000 rfl c0 ?_))
  obtain rfl:=inj F0
  exact ret_pure (q:=[vs x0,vs [],vb false]) [.str,.str,.bool] rfl rfl (by kernel_rfl)
noncomputable def F_strings_Cut (x0:Str) (x1:Str):Option (Str×Str×Bool) :=
 (F_internal_stringslite_Cut x0 x1).bind fun t1=>(some (t1.1,t1.2.1,t1.2.2))
theorem W_strings_Cut {x0:Str} {x1:Str} {y:(Str×Str×Bool)} (F0:F_strings_Cut x0 x1=some y):Pure Tryz.prog 204 [vs x0,vs x1] (.tup [vs y.1,vs y.2.1,vb y.2.2]):=by
 unfold F_strings_Cut at F0
 refine pure_of_run @Tryz.call204 @Tryz.func204 rfl rfl fun w M ho=>?_
 obtain ⟨t1,h1,F0⟩:=obd F0
 refine sq rfl ?_
 refine sE (oE [0,1] [] 5000 rfl (qE rfl (rE [4,5,6] [] [(2,⟨[.v .str,.v .str],.tup [vs t1.1,vs t1.2.1,vb t1.2.2],none⟩)] [] 5000 rfl (fA [(4,vs t1.1),(5,vs t1.2.1),(6,vb t1.2.2)] [] (cc (W_internal_stringslite_Cut h1) c0) ?_))))
 obtain rfl:=inj F0
 exact ret_pure (q:=[vs t1.1,vs t1.2.1,vb t1.2.2]) [.str,.str,.bool] rfl rfl (by kernel_rfl)
noncomputable def F_strconv_FormatUint (x0:Int) (x1:Int):Option Str :=
 (F_internal_strconv_FormatUint x0 x1).bind fun t1=>(some t1)
theorem W_strconv_FormatUint {x0:Int} {x1:Int} {y:Str} (F0:F_strconv_FormatUint x0 x1=some y):Pure Tryz.prog 163 [vu x0,vi x1] (vs y):=by
 unfold F_strconv_FormatUint at F0
 refine pure_of_run @Tryz.call163 @Tryz.func163 rfl rfl fun w M ho=>?_
 obtain ⟨t1,h1,F0⟩:=obd F0
 refine sq rfl ?_
 refine sE (oE [0,1] [] 5000 rfl (qE rfl (rE [4] [] [(2,⟨[.v (.int .u64),.v (.int .i64)],vs t1,none⟩)] [] 5000 rfl (fA [(4,vs t1)] [] (cc (W_internal_strconv_FormatUint h1) c0) ?_))))
 obtain rfl:=inj F0
 exact ret_pure (q:=[vs t1]) [.str] rfl rfl (by kernel_rfl)
noncomputable def F_cmp_isNaN_int (x0:Int):Option Bool :=
 some (x0 != x0)
theorem W_cmp_isNaN_int {x0:Int} {y:Bool} (F0:F_cmp_isNaN_int x0=some y):Pure Tryz.prog 219 [vi x0] (vb y):=by
 unfold F_cmp_isNaN_int at F0
 refine pure_of_run @Tryz.call219 @Tryz.func219 rfl rfl fun w M ho=>?_
 refine sq rfl ?_
 refine sE (oE [0] [] 5000 rfl (qE rfl (oE [2] [] 5000 rfl (fA [(2,vb (x0 != x0))] [] c0 ?_))))
 obtain rfl:=inj F0
 exact ret_pure (q:=[vb (x0 != x0)]) [.bool] rfl rfl (by kernel_rfl)
noncomputable def F_cmp_isNaN_uint64 (x0:Int):Option Bool :=
 some (x0 != x0)
theorem W_cmp_isNaN_uint64 {x0:Int} {y:Bool} (F0:F_cmp_isNaN_uint64 x0=some y):Pure Tryz.prog 231 [vu x0] (vb y):=by
 unfold F_cmp_isNaN_uint64 at F0
 refine pure_of_run @Tryz.call231 @Tryz.func231 rfl rfl fun w M ho=>?_
 refine sq rfl ?_
 refine sE (oE [0] [] 5000 rfl (qE rfl (oE [2] [] 5000 rfl (fA [(2,vb (x0 != x0))] [] c0 ?_))))
 obtain rfl:=inj F0
 exact ret_pure (q:=[vb (x0 != x0)]) [.bool] rfl rfl (by kernel_rfl)
noncomputable def F_cmp_Compare_int (x0:Int) (x1:Int):Option Int :=
 (F_cmp_isNaN_int x0).bind fun t1=>((F_cmp_isNaN_int x1).bind fun t2=>(if (t1)=true then if (t2)=true then some 0 else some (-1) else if (t2)=true then some 1 else if (decide (x0<x1))=true then some (-1) else if (decide (x0>x1))=true then some 1 else some 0))
theorem W_cmp_Compare_int {x0:Int} {x1:Int} {y:Int} (F0:F_cmp_Compare_int x0 x1=some y):Pure Tryz.prog 195 [vi x0,vi x1] (vi y):=by
 unfold F_cmp_Compare_int at F0
 refine pure_of_run @Tryz.call195 @Tryz.func195 rfl rfl fun w M ho=>?_
 obtain ⟨t1,h1,F0⟩:=obd F0
 obtain ⟨t2,h2,F0⟩:=obd F0
 refine sq rfl ?_
 refine sE (oE [0,1] [] 5000 rfl (qE rfl (rE [0,1,5] [] [(1,⟨[.v (.int .i64)],vb t1,none⟩)] [] 5000 rfl (qE rfl (rE [0,1,5,6] [] [(1,⟨[.v (.int .i64)],vb t2,none⟩)] [] 5000 rfl (qE rfl (qE rfl (oE [0,1,6,11] [] 5000 rfl (fA [(0,vi x0),(1,vi x1),(6,vb t2),(11,vb t1)] [] (cc (W_cmp_isNaN_int h1) (cc (W_cmp_isNaN_int h2) c0)) ?_)))))))))
 refine run_if rfl rfl (fun h3=>?_) (fun h3=>?_)
 ·replace F0:=ift h3 F0
  refine sq rfl (sq rfl (rB [(12,vb t2)] [] 5000 rfl c0 ?_))
  refine run_if rfl rfl (fun h4=>?_) (fun h4=>?_)
  ·replace F0:=ift h4 F0
   refine sq rfl (rB [(4,vi 0)] [] 5000 rfl c0 ?_)
   obtain rfl:=inj F0
   exact ret_pure (q:=[vi 0]) [(.int .i64)] rfl rfl (by kernel_rfl)
  ·replace F0:=ifn h4 F0
   refine sk rfl (sq rfl (rB [(4,vi (-1))] [] 5000 rfl c0 ?_))
   obtain rfl:=inj F0
   exact ret_pure (q:=[vi (-1)]) [(.int .i64)] rfl rfl (by kernel_rfl)
 ·replace F0:=ifn h3 F0
  refine sk rfl (sq rfl (sq rfl (rB [(0,vi x0),(1,vi x1),(13,vb t2)] [] 5000 rfl c0 ?_)))
  refine run_if rfl rfl (fun h5=>?_) (fun h5=>?_)
  ·replace F0:=ift h5 F0
   refine sq rfl (rB [(4,vi 1)] [] 5000 rfl c0 ?_)
   obtain rfl:=inj F0
   exact ret_pure (q:=[vi 1]) [(.int .i64)] rfl rfl (by kernel_rfl)
  ·replace F0:=ifn h5 F0
   refine sk rfl (sq rfl (sq rfl (rB [(0,vi x0),(1,vi x1),(16,vb (decide (x0<x1)))] [] 5000 rfl c0 ?_)))
   refine run_if rfl rfl (fun h6=>?_) (fun h6=>?_)
   ·replace F0:=ift h6 F0
    refine sq rfl (rB [(4,vi (-1))] [] 5000 rfl c0 ?_)
    obtain rfl:=inj F0
    exact ret_pure (q:=[vi (-1)]) [(.int .i64)] rfl rfl (by kernel_rfl)
   ·replace F0:=ifn h6 F0
    refine sk rfl (sq rfl (sq rfl (rB [(19,vb (decide (x0>x1)))] [] 5000 rfl c0 ?_)))
    refine run_if rfl rfl (fun h7=>?_) (fun h7=>?_)
    ·replace F0:=ift h7 F0
     refine sq rfl (rB [(4,vi 1)] [] 5000 rfl c0 ?_)
     obtain rfl:=inj F0
     exact ret_pure (q:=[vi 1]) [(.int .i64)] rfl rfl (by kernel_rfl)
    ·replace F0:=ifn h7 F0
     refine sk rfl (sq rfl (rB [(4,vi 0)] [] 5000 rfl c0 ?_))
     obtain rfl:=inj F0
     exact ret_pure (q:=[vi 0]) [(.int .i64)] rfl rfl (by kernel_rfl)
noncomputable def F_cmp_Compare_uint64 (x0:Int) (x1:Int):Option Int :=
 (F_cmp_isNaN_uint64 x0).bind fun t1=>((F_cmp_isNaN_uint64 x1).bind fun t2=>(if (t1)=true then if (t2)=true then some 0 else some (-1) else if (t2)=true then some 1 else if (decide (x0<x1))=true then some (-1) else if (decide (x0>x1))=true then some 1 else some 0))
theorem W_cmp_Compare_uint64 {x0:Int} {x1:Int} {y:Int} (F0:F_cmp_Compare_uint64 x0 x1=some y):Pure Tryz.prog 213 [vu x0,vu x1] (vi y):=by
 unfold F_cmp_Compare_uint64 at F0
 refine pure_of_run @Tryz.call213 @Tryz.func213 rfl rfl fun w M ho=>?_
 obtain ⟨t1,h1,F0⟩:=obd F0
 obtain ⟨t2,h2,F0⟩:=obd F0
 refine sq rfl ?_
 refine sE (oE [0,1] [] 5000 rfl (qE rfl (rE [0,1,5] [] [(1,⟨[.v (.int .u64)],vb t1,none⟩)] [] 5000 rfl (qE rfl (rE [0,1,5,6] [] [(1,⟨[.v (.int .u64)],vb t2,none⟩)] [] 5000 rfl (qE rfl (qE rfl (oE [0,1,6,11] [] 5000 rfl (fA [(0,vu x0),(1,vu x1),(6,vb t2),(11,vb t1)] [] (cc (W_cmp_isNaN_uint64 h1) (cc (W_cmp_isNaN_uint64 h2) c0)) ?_)))))))))
 refine run_if rfl rfl (fun h3=>?_) (fun h3=>?_)
 ·replace F0:=ift h3 F0
  refine sq rfl (sq rfl (rB [(12,vb t2)] [] 5000 rfl c0 ?_))
  refine run_if rfl rfl (fun h4=>?_) (fun h4=>?_)
  ·replace F0:=ift h4 F0
   refine sq rfl (rB [(4,vi 0)] [] 5000 rfl c0 ?_)
   obtain rfl:=inj F0
   exact ret_pure (q:=[vi 0]) [(.int .i64)] rfl rfl (by kernel_rfl)
  ·replace F0:=ifn h4 F0
   refine sk rfl (sq rfl (rB [(4,vi (-1))] [] 5000 rfl c0 ?_))
   obtain rfl:=inj F0
   exact ret_pure (q:=[vi (-1)]) [(.int .i64)] rfl rfl (by kernel_rfl)
 ·replace F0:=ifn h3 F0
  refine sk rfl (sq rfl (sq rfl (rB [(0,vu x0),(1,vu x1),(13,vb t2)] [] 5000 rfl c0 ?_)))
  refine run_if rfl rfl (fun h5=>?_) (fun h5=>?_)
  ·replace F0:=ift h5 F0
   refine sq rfl (rB [(4,vi 1)] [] 5000 rfl c0 ?_)
   obtain rfl:=inj F0
   exact ret_pure (q:=[vi 1]) [(.int .i64)] rfl rfl (by kernel_rfl)
  ·replace F0:=ifn h5 F0
   refine sk rfl (sq rfl (sq rfl (rB [(0,vu x0),(1,vu x1),(16,vb (decide (x0<x1)))] [] 5000 rfl c0 ?_)))
   refine run_if rfl rfl (fun h6=>?_) (fun h6=>?_)
   ·replace F0:=ift h6 F0
    refine sq rfl (rB [(4,vi (-1))] [] 5000 rfl c0 ?_)
    obtain rfl:=inj F0
    exact ret_pure (q:=[vi (-1)]) [(.int .i64)] rfl rfl (by kernel_rfl)
   ·replace F0:=ifn h6 F0
    refine sk rfl (sq rfl (sq rfl (rB [(19,vb (decide (x0>x1)))] [] 5000 rfl c0 ?_)))
    refine run_if rfl rfl (fun h7=>?_) (fun h7=>?_)
    ·replace F0:=ift h7 F0
     refine sq rfl (rB [(4,vi 1)] [] 5000 rfl c0 ?_)
     obtain rfl:=inj F0
     exact ret_pure (q:=[vi 1]) [(.int .i64)] rfl rfl (by kernel_rfl)
    ·replace F0:=ifn h7 F0
     refine sk rfl (sq rfl (rB [(4,vi 0)] [] 5000 rfl c0 ?_))
     obtain rfl:=inj F0
     exact ret_pure (q:=[vi 0]) [(.int .i64)] rfl rfl (by kernel_rfl)
noncomputable def F_cmp_Or_int_b1 (x0:(List Int)) (s1:Int):Option (Int⊕(Int⊕Unit)) :=
 if (decide (s1<((length x0:Nat):Int)))=true then if 0≤s1∧s1<((length x0:Nat):Int) then (if ((getD x0 (toNat s1) 0) != 0)=true then some (Sum.inr (Sum.inl (getD x0 (toNat s1) 0))) else some (Sum.inl (wrap .i64 (s1+1)))) else none else some (Sum.inr (Sum.inr ()))
noncomputable def F_cmp_Or_int (x0:(List Int)):Option Int :=
 (loopO (F_cmp_Or_int_b1 x0) 0).bind (Sum.elim some (fun j11=>some 0))
theorem W_cmp_Or_int {x0:(List Int)} {y:Int} (F0:F_cmp_Or_int x0=some y):Pure Tryz.prog 193 [.v (.sl (.int .i64)) x0] (vi y):=by
 unfold F_cmp_Or_int at F0
 refine pure_of_run @Tryz.call193 @Tryz.func193 rfl rfl fun w M ho=>?_
 obtain ⟨r1,hl1,F0⟩:=obd F0
 refine sq rfl ?_
 refine sE (oE [0] [] 5000 rfl (qE rfl (oE [0,3] [] 5000 rfl (qE rfl (qE rfl (oE [3,6,7,8] [] 5000 rfl (fA [(3,vi 0),(6,.v (.sl (.int .i64)) x0),(7,vi ((length x0:Nat):Int)),(8,vi 0)] [] c0 (bk rfl ?_))))))))
 refine run_cutx 0 rfl (fun j11=>r1=Sum.inr j11) (fun j11=>[(3,vi 0)]) (fun j11=>[]) (fun j11 h1=>?_) (fun J1_1=>?_)
 ·subst h1
  replace F0:=sumR F0
  refine sq rfl (rB [(2,vi 0)] [] 5000 rfl c0 ?_)
  obtain rfl:=inj F0
  exact ret_pure (q:=[vi 0]) [(.int .i64)] rfl rfl (by kernel_rfl)
 refine run_loop rfl (run_loopO hl1 (fun s1=>[(3,vi 0),(6,.v (.sl (.int .i64)) x0),(7,vi ((length x0:Nat):Int)),(8,vi s1)]) (fun s1=>[]) rfl rfl (fun s1 o1 F1 ih1 hr1=>?_))
 unfold F_cmp_Or_int_b1 at F1
 refine run_again (sq rfl (rB [(3,vi 0),(6,.v (.sl (.int .i64)) x0),(7,vi ((length x0:Nat):Int)),(8,vi s1),(9,vb (decide (s1<((length x0:Nat):Int))))] [] 5000 rfl c0 (sq rfl ?_)))
 refine run_if rfl rfl (fun h2=>?_) (fun h2=>?_)
 ·replace F1:=ift h2 F1
  obtain ⟨h3,F1⟩:=ifg F1
  refine sk rfl (sq rfl (bk rfl (sq rfl ?_)))
  refine sE (oE [3,5,6,7,8] [] 5000 rfl (qE rfl (oE [3,5,6,7,8,14] [] 5000 rfl (fA [(3,vi 0),(5,vi (getD x0 (toNat s1) 0)),(6,.v (.sl (.int .i64)) x0),(7,vi ((length x0:Nat):Int)),(8,vi s1),(14,vb ((getD x0 (toNat s1) 0) != 0))] [] (cc h3 c0) ?_))))
  refine run_if rfl rfl (fun h4=>?_) (fun h4=>?_)
  ·replace F1:=ift h4 F1
   refine sq rfl (rB [(2,vi (getD x0 (toNat s1) 0))] [] 5000 rfl c0 ?_)
   have e1:=inrI hr1 F1
   subst e1
   replace F0:=sumL F0
   obtain rfl:=inj F0
   exact ret_pure (q:=[vi (getD x0 (toNat s1) 0)]) [(.int .i64)] rfl rfl (by kernel_rfl)
  ·replace F1:=ifn h4 F1
   refine sk rfl (eb (rB [(3,vi 0),(6,.v (.sl (.int .i64)) x0),(7,vi ((length x0:Nat):Int)),(8,vi (wrap .i64 (s1+1)))] [] 5000 rfl c0 ?_))
   exact ih1 _ (inj F1).symm
 ·replace F1:=ifn h2 F1
  refine run_exit rfl rfl (tm (ρ':=[(3,vi 0)]) (H':=[]) (by kernel_rfl) (by kernel_rfl) rfl ?_)
  exact J1_1 _ (inrI hr1 F1).symm
noncomputable def F_right_gives (x0:Int):Option Bool :=
 (show Option Bool from if (decide (x0≥1))=true then some (decide (x0≤7)) else some false).bind (fun r1=>some r1)
theorem W_right_gives {x0:Int} {y:Bool} (F0:F_right_gives x0=some y):Pure Tryz.prog 209 [vi x0] (vb y):=by
 unfold F_right_gives at F0
 refine pure_of_run @Tryz.call209 @Tryz.func209 rfl rfl fun w M ho=>?_
 obtain ⟨r1,F1,F0⟩:=obd F0
 refine sq rfl (rB [(0,vi x0)] [] 5000 rfl c0 (sq rfl ?_))
 refine run_cut (fun r1'=>r1=r1') (fun r1=>[(2,vb r1)]) (fun r1=>[]) (fun r1' h1=>?_) (fun J1_0=>?_)
 ·subst h1
  obtain rfl:=inj F0
  exact ret_pure (q:=[vb r1]) [.bool] rfl rfl (by kernel_rfl)
 rcases Bool.eq_false_or_eq_true (decide (x0≥1)) with h2|h2
 ·replace F1:=ift h2 F1
  refine rA [(2,vb (decide (x0≤7)))] [] [] [(2,true)] 5000 rfl (cc h2 c0) ?_
  exact J1_0 _ (inj F1).symm
 ·replace F1:=ifn h2 F1
  refine rA [(2,vb false)] [] [] [(2,false)] 5000 rfl (cc h2 c0) ?_
  exact J1_0 _ (inj F1).symm
abbrev S56:Sh:=(.st (.prod (.int .u64) (.prod (.int .u64) (.prod (.int .i64) .bool))))
noncomputable def F_slices_IndexFunc_api_Right_api_Right_b1 (x0:(List S56.ty)) (x1:(S56.ty→Option Bool)) (s1:Int):Option (Int⊕(Int⊕Unit)) :=
 if (decide (s1<((length x0:Nat):Int)))=true then if 0≤s1∧s1<((length x0:Nat):Int) then (x1 (getD x0 (toNat s1) S56.dflt)).bind fun t1=>(if (t1)=true then some (Sum.inr (Sum.inl s1)) else some (Sum.inl (wrap .i64 (s1+1)))) else none else some (Sum.inr (Sum.inr ()))
noncomputable def F_slices_IndexFunc_api_Right_api_Right (x0:(List S56.ty)) (x1:(S56.ty→Option Bool)):Option Int :=
 (loopO (F_slices_IndexFunc_api_Right_api_Right_b1 x0 x1) 0).bind (Sum.elim some (fun j11=>some (-1)))
theorem W_slices_IndexFunc_api_Right_api_Right {x0:(List S56.ty)} {x1:(S56.ty→Option Bool)} {y:Int} (F0:F_slices_IndexFunc_api_Right_api_Right x0 x1=some y):Pure Tryz.prog 115 [.v (.sl S56) x0,.v (.fn S56 .bool) x1] (vi y):=by
 unfold F_slices_IndexFunc_api_Right_api_Right at F0
 refine pure_of_run @Tryz.call115 @Tryz.func115 rfl rfl fun w M ho=>?_
 obtain ⟨r1,hl1,F0⟩:=obd F0
 refine sq rfl ?_
 refine sE (oE [0,1] [] 5000 rfl (qE rfl (qE rfl (oE [0,1,7,8] [] 5000 rfl (fA [(0,.v (.sl S56) x0),(1,.v (.fn S56 .bool) x1),(7,vi ((length x0:Nat):Int)),(8,vi 0)] [] c0 (bk rfl ?_))))))
 refine run_cutx 0 rfl (fun j11=>r1=Sum.inr j11) (fun j11=>[]) (fun j11=>[]) (fun j11 h1=>?_) (fun J1_1=>?_)
 ·subst h1
  replace F0:=sumR F0
  refine sq rfl (rB [(4,vi (-1))] [] 5000 rfl c0 ?_)
  obtain rfl:=inj F0
  exact ret_pure (q:=[vi (-1)]) [(.int .i64)] rfl rfl (by kernel_rfl)
 refine run_loop rfl (run_loopO hl1 (fun s1=>[(0,.v (.sl S56) x0),(1,.v (.fn S56 .bool) x1),(7,vi ((length x0:Nat):Int)),(8,vi s1)]) (fun s1=>[]) rfl rfl (fun s1 o1 F1 ih1 hr1=>?_))
 unfold F_slices_IndexFunc_api_Right_api_Right_b1 at F1
 refine run_again (sq rfl (rB [(0,.v (.sl S56) x0),(1,.v (.fn S56 .bool) x1),(7,vi ((length x0:Nat):Int)),(8,vi s1),(9,vb (decide (s1<((length x0:Nat):Int))))] [] 5000 rfl c0 (sq rfl ?_)))
 refine run_if rfl rfl (fun h2=>?_) (fun h2=>?_)
 ·replace F1:=ift h2 F1
  obtain ⟨h3,F1⟩:=ifg F1
  obtain ⟨t1,h4,F1⟩:=obd F1
  refine sk rfl (sq rfl (bk rfl (sq rfl ?_)))
  refine sE (oE [0,1,5,7,8] [] 5000 rfl (qE rfl (rE [0,1,5,7,8,16] [] [(5,⟨[],vb t1,none⟩)] [] 5000 rfl (fA [(0,.v (.sl S56) x0),(1,.v (.fn S56 .bool) x1),(5,vi s1),(7,vi ((length x0:Nat):Int)),(8,vi s1),(16,vb t1)] [] (cc h3 (cc h4 c0)) ?_))))
  refine run_if rfl rfl (fun h5=>?_) (fun h5=>?_)
  ·replace F1:=ift h5 F1
   refine sq rfl (rB [(4,vi s1)] [] 5000 rfl c0 ?_)
   have e1:=inrI hr1 F1
   subst e1
   replace F0:=sumL F0
   obtain rfl:=inj F0
   exact ret_pure (q:=[vi s1]) [(.int .i64)] rfl rfl (by kernel_rfl)
  ·replace F1:=ifn h5 F1
   refine sk rfl (eb (rB [(0,.v (.sl S56) x0),(1,.v (.fn S56 .bool) x1),(7,vi ((length x0:Nat):Int)),(8,vi (wrap .i64 (s1+1)))] [] 5000 rfl c0 ?_))
   exact ih1 _ (inj F1).symm
 ·replace F1:=ifn h2 F1
  refine run_exit rfl rfl (tm (ρ':=[]) (H':=[]) (by kernel_rfl) (by kernel_rfl) rfl ?_)
  exact J1_1 _ (inrI hr1 F1).symm
abbrev S120:Sh:=(.st (.prod (.int .u64) (.int .u64)))
noncomputable def F_slices_IndexFunc_api_Session_api_Session_b1 (x0:(List S120.ty)) (x1:(S120.ty→Option Bool)) (s1:Int):Option (Int⊕(Int⊕Unit)) :=
 if (decide (s1<((length x0:Nat):Int)))=true then if 0≤s1∧s1<((length x0:Nat):Int) then (x1 (getD x0 (toNat s1) S120.dflt)).bind fun t1=>(if (t1)=true then some (Sum.inr (Sum.inl s1)) else some (Sum.inl (wrap .i64 (s1+1)))) else none else some (Sum.inr (Sum.inr ()))
noncomputable def F_slices_IndexFunc_api_Session_api_Session (x0:(List S120.ty)) (x1:(S120.ty→Option Bool)):Option Int :=
 (loopO (F_slices_IndexFunc_api_Session_api_Session_b1 x0 x1) 0).bind (Sum.elim some (fun j11=>some (-1)))
theorem W_slices_IndexFunc_api_Session_api_Session {x0:(List S120.ty)} {x1:(S120.ty→Option Bool)} {y:Int} (F0:F_slices_IndexFunc_api_Session_api_Session x0 x1=some y):Pure Tryz.prog 210 [.v (.sl S120) x0,.v (.fn S120 .bool) x1] (vi y):=by
 unfold F_slices_IndexFunc_api_Session_api_Session at F0
 refine pure_of_run @Tryz.call210 @Tryz.func210 rfl rfl fun w M ho=>?_
 obtain ⟨r1,hl1,F0⟩:=obd F0
 refine sq rfl ?_
 refine sE (oE [0,1] [] 5000 rfl (qE rfl (qE rfl (oE [0,1,7,8] [] 5000 rfl (fA [(0,.v (.sl S120) x0),(1,.v (.fn S120 .bool) x1),(7,vi ((length x0:Nat):Int)),(8,vi 0)] [] c0 (bk rfl ?_))))))
 refine run_cutx 0 rfl (fun j11=>r1=Sum.inr j11) (fun j11=>[]) (fun j11=>[]) (fun j11 h1=>?_) (fun J1_1=>?_)
 ·subst h1
  replace F0:=sumR F0
  refine sq rfl (rB [(4,vi (-1))] [] 5000 rfl c0 ?_)
  obtain rfl:=inj F0
  exact ret_pure (q:=[vi (-1)]) [(.int .i64)] rfl rfl (by kernel_rfl)
 refine run_loop rfl (run_loopO hl1 (fun s1=>[(0,.v (.sl S120) x0),(1,.v (.fn S120 .bool) x1),(7,vi ((length x0:Nat):Int)),(8,vi s1)]) (fun s1=>[]) rfl rfl (fun s1 o1 F1 ih1 hr1=>?_))
 unfold F_slices_IndexFunc_api_Session_api_Session_b1 at F1
 refine run_again (sq rfl (rB [(0,.v (.sl S120) x0),(1,.v (.fn S120 .bool) x1),(7,vi ((length x0:Nat):Int)),(8,vi s1),(9,vb (decide (s1<((length x0:Nat):Int))))] [] 5000 rfl c0 (sq rfl ?_)))
 refine run_if rfl rfl (fun h2=>?_) (fun h2=>?_)
 ·replace F1:=ift h2 F1
  obtain ⟨h3,F1⟩:=ifg F1
  obtain ⟨t1,h4,F1⟩:=obd F1
  refine sk rfl (sq rfl (bk rfl (sq rfl ?_)))
  refine sE (oE [0,1,5,7,8] [] 5000 rfl (qE rfl (rE [0,1,5,7,8,16] [] [(5,⟨[],vb t1,none⟩)] [] 5000 rfl (fA [(0,.v (.sl S120) x0),(1,.v (.fn S120 .bool) x1),(5,vi s1),(7,vi ((length x0:Nat):Int)),(8,vi s1),(16,vb t1)] [] (cc h3 (cc h4 c0)) ?_))))
  refine run_if rfl rfl (fun h5=>?_) (fun h5=>?_)
  ·replace F1:=ift h5 F1
   refine sq rfl (rB [(4,vi s1)] [] 5000 rfl c0 ?_)
   have e1:=inrI hr1 F1
   subst e1
   replace F0:=sumL F0
   obtain rfl:=inj F0
   exact ret_pure (q:=[vi s1]) [(.int .i64)] rfl rfl (by kernel_rfl)
  ·replace F1:=ifn h5 F1
   refine sk rfl (eb (rB [(0,.v (.sl S120) x0),(1,.v (.fn S120 .bool) x1),(7,vi ((length x0:Nat):Int)),(8,vi (wrap .i64 (s1+1)))] [] 5000 rfl c0 ?_))
   exact ih1 _ (inj F1).symm
 ·replace F1:=ifn h2 F1
  refine run_exit rfl rfl (tm (ρ':=[]) (H':=[]) (by kernel_rfl) (by kernel_rfl) rfl ?_)
  exact J1_1 _ (inrI hr1 F1).symm
noncomputable def F_slices_IndexFunc_api_Entry_api_Entry_b1 (x0:(List S58.ty)) (x1:(S58.ty→Option Bool)) (s1:Int):Option (Int⊕(Int⊕Unit)) :=
 if (decide (s1<((length x0:Nat):Int)))=true then if 0≤s1∧s1<((length x0:Nat):Int) then (x1 (getD x0 (toNat s1) S58.dflt)).bind fun t1=>(if (t1)=true then some (Sum.inr (Sum.inl s1)) else some (Sum.inl (wrap .i64 (s1+1)))) else none else some (Sum.inr (Sum.inr ()))
noncomputable def F_slices_IndexFunc_api_Entry_api_Entry (x0:(List S58.ty)) (x1:(S58.ty→Option Bool)):Option Int :=
 (loopO (F_slices_IndexFunc_api_Entry_api_Entry_b1 x0 x1) 0).bind (Sum.elim some (fun j11=>some (-1)))
theorem W_slices_IndexFunc_api_Entry_api_Entry {x0:(List S58.ty)} {x1:(S58.ty→Option Bool)} {y:Int} (F0:F_slices_IndexFunc_api_Entry_api_Entry x0 x1=some y):Pure Tryz.prog 141 [.v (.sl S58) x0,.v (.fn S58 .bool) x1] (vi y):=by
 unfold F_slices_IndexFunc_api_Entry_api_Entry at F0
 refine pure_of_run @Tryz.call141 @Tryz.func141 rfl rfl fun w M ho=>?_
 obtain ⟨r1,hl1,F0⟩:=obd F0
 refine sq rfl ?_
 refine sE (oE [0,1] [] 5000 rfl (qE rfl (qE rfl (oE [0,1,7,8] [] 5000 rfl (fA [(0,.v (.sl S58) x0),(1,.v (.fn S58 .bool) x1),(7,vi ((length x0:Nat):Int)),(8,vi 0)] [] c0 (bk rfl ?_))))))
 refine run_cutx 0 rfl (fun j11=>r1=Sum.inr j11) (fun j11=>[]) (fun j11=>[]) (fun j11 h1=>?_) (fun J1_1=>?_)
 ·subst h1
  replace F0:=sumR F0
  refine sq rfl (rB [(4,vi (-1))] [] 5000 rfl c0 ?_)
  obtain rfl:=inj F0
  exact ret_pure (q:=[vi (-1)]) [(.int .i64)] rfl rfl (by kernel_rfl)
 refine run_loop rfl (run_loopO hl1 (fun s1=>[(0,.v (.sl S58) x0),(1,.v (.fn S58 .bool) x1),(7,vi ((length x0:Nat):Int)),(8,vi s1)]) (fun s1=>[]) rfl rfl (fun s1 o1 F1 ih1 hr1=>?_))
 unfold F_slices_IndexFunc_api_Entry_api_Entry_b1 at F1
 refine run_again (sq rfl (rB [(0,.v (.sl S58) x0),(1,.v (.fn S58 .bool) x1),(7,vi ((length x0:Nat):Int)),(8,vi s1),(9,vb (decide (s1<((length x0:Nat):Int))))] [] 5000 rfl c0 (sq rfl ?_)))
 refine run_if rfl rfl (fun h2=>?_) (fun h2=>?_)
 ·replace F1:=ift h2 F1
  obtain ⟨h3,F1⟩:=ifg F1
  obtain ⟨t1,h4,F1⟩:=obd F1
  refine sk rfl (sq rfl (bk rfl (sq rfl ?_)))
  refine sE (oE [0,1,5,7,8] [] 5000 rfl (qE rfl (rE [0,1,5,7,8,16] [] [(5,⟨[],vb t1,none⟩)] [] 5000 rfl (fA [(0,.v (.sl S58) x0),(1,.v (.fn S58 .bool) x1),(5,vi s1),(7,vi ((length x0:Nat):Int)),(8,vi s1),(16,vb t1)] [] (cc h3 (cc h4 c0)) ?_))))
  refine run_if rfl rfl (fun h5=>?_) (fun h5=>?_)
  ·replace F1:=ift h5 F1
   refine sq rfl (rB [(4,vi s1)] [] 5000 rfl c0 ?_)
   have e1:=inrI hr1 F1
   subst e1
   replace F0:=sumL F0
   obtain rfl:=inj F0
   exact ret_pure (q:=[vi s1]) [(.int .i64)] rfl rfl (by kernel_rfl)
  ·replace F1:=ifn h5 F1
   refine sk rfl (eb (rB [(0,.v (.sl S58) x0),(1,.v (.fn S58 .bool) x1),(7,vi ((length x0:Nat):Int)),(8,vi (wrap .i64 (s1+1)))] [] 5000 rfl c0 ?_))
   exact ih1 _ (inj F1).symm
 ·replace F1:=ifn h2 F1
  refine run_exit rfl rfl (tm (ρ':=[]) (H':=[]) (by kernel_rfl) (by kernel_rfl) rfl ?_)
  exact J1_1 _ (inrI hr1 F1).symm
noncomputable def F_slices_IndexFunc_api_Member_api_Member_b1 (x0:(List S43.ty)) (x1:(S43.ty→Option Bool)) (s1:Int):Option (Int⊕(Int⊕Unit)) :=
 if (decide (s1<((length x0:Nat):Int)))=true then if 0≤s1∧s1<((length x0:Nat):Int) then (x1 (getD x0 (toNat s1) S43.dflt)).bind fun t1=>(if (t1)=true then some (Sum.inr (Sum.inl s1)) else some (Sum.inl (wrap .i64 (s1+1)))) else none else some (Sum.inr (Sum.inr ()))
noncomputable def F_slices_IndexFunc_api_Member_api_Member (x0:(List S43.ty)) (x1:(S43.ty→Option Bool)):Option Int :=
 (loopO (F_slices_IndexFunc_api_Member_api_Member_b1 x0 x1) 0).bind (Sum.elim some (fun j11=>some (-1)))
theorem W_slices_IndexFunc_api_Member_api_Member {x0:(List S43.ty)} {x1:(S43.ty→Option Bool)} {y:Int} (F0:F_slices_IndexFunc_api_Member_api_Member x0 x1=some y):Pure Tryz.prog 120 [.v (.sl S43) x0,.v (.fn S43 .bool) x1] (vi y):=by
 unfold F_slices_IndexFunc_api_Member_api_Member at F0
 refine pure_of_run @Tryz.call120 @Tryz.func120 rfl rfl fun w M ho=>?_
 obtain ⟨r1,hl1,F0⟩:=obd F0
 refine sq rfl ?_
 refine sE (oE [0,1] [] 5000 rfl (qE rfl (qE rfl (oE [0,1,7,8] [] 5000 rfl (fA [(0,.v (.sl S43) x0),(1,.v (.fn S43 .bool) x1),(7,vi ((length x0:Nat):Int)),(8,vi 0)] [] c0 (bk rfl ?_))))))
 refine run_cutx 0 rfl (fun j11=>r1=Sum.inr j11) (fun j11=>[]) (fun j11=>[]) (fun j11 h1=>?_) (fun J1_1=>?_)
 ·subst h1
  replace F0:=sumR F0
  refine sq rfl (rB [(4,vi (-1))] [] 5000 rfl c0 ?_)
  obtain rfl:=inj F0
  exact ret_pure (q:=[vi (-1)]) [(.int .i64)] rfl rfl (by kernel_rfl)
 refine run_loop rfl (run_loopO hl1 (fun s1=>[(0,.v (.sl S43) x0),(1,.v (.fn S43 .bool) x1),(7,vi ((length x0:Nat):Int)),(8,vi s1)]) (fun s1=>[]) rfl rfl (fun s1 o1 F1 ih1 hr1=>?_))
 unfold F_slices_IndexFunc_api_Member_api_Member_b1 at F1
 refine run_again (sq rfl (rB [(0,.v (.sl S43) x0),(1,.v (.fn S43 .bool) x1),(7,vi ((length x0:Nat):Int)),(8,vi s1),(9,vb (decide (s1<((length x0:Nat):Int))))] [] 5000 rfl c0 (sq rfl ?_)))
 refine run_if rfl rfl (fun h2=>?_) (fun h2=>?_)
 ·replace F1:=ift h2 F1
  obtain ⟨h3,F1⟩:=ifg F1
  obtain ⟨t1,h4,F1⟩:=obd F1
  refine sk rfl (sq rfl (bk rfl (sq rfl ?_)))
  refine sE (oE [0,1,5,7,8] [] 5000 rfl (qE rfl (rE [0,1,5,7,8,16] [] [(5,⟨[],vb t1,none⟩)] [] 5000 rfl (fA [(0,.v (.sl S43) x0),(1,.v (.fn S43 .bool) x1),(5,vi s1),(7,vi ((length x0:Nat):Int)),(8,vi s1),(16,vb t1)] [] (cc h3 (cc h4 c0)) ?_))))
  refine run_if rfl rfl (fun h5=>?_) (fun h5=>?_)
  ·replace F1:=ift h5 F1
   refine sq rfl (rB [(4,vi s1)] [] 5000 rfl c0 ?_)
   have e1:=inrI hr1 F1
   subst e1
   replace F0:=sumL F0
   obtain rfl:=inj F0
   exact ret_pure (q:=[vi s1]) [(.int .i64)] rfl rfl (by kernel_rfl)
  ·replace F1:=ifn h5 F1
   refine sk rfl (eb (rB [(0,.v (.sl S43) x0),(1,.v (.fn S43 .bool) x1),(7,vi ((length x0:Nat):Int)),(8,vi (wrap .i64 (s1+1)))] [] 5000 rfl c0 ?_))
   exact ih1 _ (inj F1).symm
 ·replace F1:=ifn h2 F1
  refine run_exit rfl rfl (tm (ρ':=[]) (H':=[]) (by kernel_rfl) (by kernel_rfl) rfl ?_)
  exact J1_1 _ (inrI hr1 F1).symm
noncomputable def F_slices_Index_api_Member_api_Member_b1 (x0:(List S43.ty)) (x1:S43.ty) (s1:Int):Option (Int⊕(Int⊕Unit)) :=
 if (decide (s1<((length x0:Nat):Int)))=true then if 0≤s1∧s1<((length x0:Nat):Int) then (if (Sh.eqb S43 x1 (getD x0 (toNat s1) S43.dflt))=true then some (Sum.inr (Sum.inl s1)) else some (Sum.inl (wrap .i64 (s1+1)))) else none else some (Sum.inr (Sum.inr ()))
noncomputable def F_slices_Index_api_Member_api_Member (x0:(List S43.ty)) (x1:S43.ty):Option Int :=
 (loopO (F_slices_Index_api_Member_api_Member_b1 x0 x1) 0).bind (Sum.elim some (fun j11=>some (-1)))
theorem W_slices_Index_api_Member_api_Member {x0:(List S43.ty)} {x1:S43.ty} {y:Int} (F0:F_slices_Index_api_Member_api_Member x0 x1=some y):Pure Tryz.prog 198 [.v (.sl S43) x0,.v S43 x1] (vi y):=by
 unfold F_slices_Index_api_Member_api_Member at F0
 refine pure_of_run @Tryz.call198 @Tryz.func198 rfl rfl fun w M ho=>?_
 obtain ⟨r1,hl1,F0⟩:=obd F0
 refine sq rfl ?_
 refine sE (oE [0,3] [5000] 5000 rfl (qE rfl (qE rfl (oE [0,3,7,8] [5000] 5001 rfl (fA [(0,.v (.sl S43) x0),(3,.ptr 5000 [] 0),(7,vi ((length x0:Nat):Int)),(8,vi 0)] [(5000,.var 43 S43 x1)] c0 (bk rfl ?_))))))
 refine run_cutx 0 rfl (fun j11=>r1=Sum.inr j11) (fun j11=>[]) (fun j11=>[]) (fun j11 h1=>?_) (fun J1_1=>?_)
 ·subst h1
  replace F0:=sumR F0
  refine sq rfl (rB [(4,vi (-1))] [] 5000 rfl c0 ?_)
  obtain rfl:=inj F0
  exact ret_pure (q:=[vi (-1)]) [(.int .i64)] rfl rfl (by kernel_rfl)
 refine run_loop rfl (run_loopO hl1 (fun s1=>[(0,.v (.sl S43) x0),(3,.ptr 5000 [] 0),(7,vi ((length x0:Nat):Int)),(8,vi s1)]) (fun s1=>[(5000,.var 43 S43 x1)]) rfl rfl (fun s1 o1 F1 ih1 hr1=>?_))
 unfold F_slices_Index_api_Member_api_Member_b1 at F1
 refine run_again (sq rfl (rB [(0,.v (.sl S43) x0),(3,.ptr 5000 [] 0),(7,vi ((length x0:Nat):Int)),(8,vi s1),(9,vb (decide (s1<((length x0:Nat):Int))))] [(5000,.var 43 S43 x1)] 5001 rfl c0 (sq rfl ?_)))
 refine run_if rfl rfl (fun h2=>?_) (fun h2=>?_)
 ·replace F1:=ift h2 F1
  obtain ⟨h3,F1⟩:=ifg F1
  refine sk rfl (sq rfl (bk rfl (sq rfl ?_)))
  refine sE (oE [0,3,5,7,8] [5000] 5001 rfl (qE rfl (gE [0,3,5,7,8,16] [5000] [] [] 5001 rfl rfl (fA [(0,.v (.sl S43) x0),(3,.ptr 5000 [] 0),(5,vi s1),(7,vi ((length x0:Nat):Int)),(8,vi s1),(16,vb (Sh.eqb S43 x1 (getD x0 (toNat s1) S43.dflt)))] [(5000,.var 43 S43 x1)] (cc h3 c0) ?_))))
  refine run_if rfl rfl (fun h4=>?_) (fun h4=>?_)
  ·replace F1:=ift h4 F1
   refine sq rfl (rB [(4,vi s1)] [] 5001 rfl c0 ?_)
   have e1:=inrI hr1 F1
   subst e1
   replace F0:=sumL F0
   obtain rfl:=inj F0
   exact ret_pure (q:=[vi s1]) [(.int .i64)] rfl rfl (by kernel_rfl)
  ·replace F1:=ifn h4 F1
   refine sk rfl (eb (rB [(0,.v (.sl S43) x0),(3,.ptr 5000 [] 0),(7,vi ((length x0:Nat):Int)),(8,vi (wrap .i64 (s1+1)))] [(5000,.var 43 S43 x1)] 5001 rfl c0 ?_))
   exact ih1 _ (inj F1).symm
 ·replace F1:=ifn h2 F1
  refine run_exit rfl rfl (tm (ρ':=[]) (H':=[]) (by kernel_rfl) (by kernel_rfl) rfl ?_)
  exact J1_1 _ (inrI hr1 F1).symm
noncomputable def F_slices_Contains_api_Member_api_Member (x0:(List S43.ty)) (x1:S43.ty):Option Bool :=
 (F_slices_Index_api_Member_api_Member x0 x1).bind fun t1=>(some (decide (t1≥0)))
theorem W_slices_Contains_api_Member_api_Member {x0:(List S43.ty)} {x1:S43.ty} {y:Bool} (F0:F_slices_Contains_api_Member_api_Member x0 x1=some y):Pure Tryz.prog 154 [.v (.sl S43) x0,.v S43 x1] (vb y):=by
 unfold F_slices_Contains_api_Member_api_Member at F0
 refine pure_of_run @Tryz.call154 @Tryz.func154 rfl rfl fun w M ho=>?_
 obtain ⟨t1,h1,F0⟩:=obd F0
 refine sq rfl ?_
 refine sE (oE [0,3] [5000] 5000 rfl (qE rfl (rE [4] [] [(2,⟨[.v (.sl S43),.v S43],vi t1,none⟩)] [] 5001 rfl (fA [(4,vb (decide (t1≥0)))] [] (cc (W_slices_Index_api_Member_api_Member h1) c0) ?_))))
 obtain rfl:=inj F0
 exact ret_pure (q:=[vb (decide (t1≥0))]) [.bool] rfl rfl (by kernel_rfl)
noncomputable def F_slices_Index_string_string_b1 (x0:(List Str)) (x1:Str) (s1:Int):Option (Int⊕(Int⊕Unit)) :=
 if (decide (s1<((length x0:Nat):Int)))=true then if 0≤s1∧s1<((length x0:Nat):Int) then (if (x1==(getD x0 (toNat s1) []))=true then some (Sum.inr (Sum.inl s1)) else some (Sum.inl (wrap .i64 (s1+1)))) else none else some (Sum.inr (Sum.inr ()))
noncomputable def F_slices_Index_string_string (x0:(List Str)) (x1:Str):Option Int :=
 (loopO (F_slices_Index_string_string_b1 x0 x1) 0).bind (Sum.elim some (fun j11=>some (-1)))
theorem W_slices_Index_string_string {x0:(List Str)} {x1:Str} {y:Int} (F0:F_slices_Index_string_string x0 x1=some y):Pure Tryz.prog 207 [.v (.sl .str) x0,vs x1] (vi y):=by
 unfold F_slices_Index_string_string at F0
 refine pure_of_run @Tryz.call207 @Tryz.func207 rfl rfl fun w M ho=>?_
 obtain ⟨r1,hl1,F0⟩:=obd F0
 refine sq rfl ?_
 refine sE (oE [0,1] [] 5000 rfl (qE rfl (qE rfl (oE [0,1,7,8] [] 5000 rfl (fA [(0,.v (.sl .str) x0),(1,vs x1),(7,vi ((length x0:Nat):Int)),(8,vi 0)] [] c0 (bk rfl ?_))))))
 refine run_cutx 0 rfl (fun j11=>r1=Sum.inr j11) (fun j11=>[]) (fun j11=>[]) (fun j11 h1=>?_) (fun J1_1=>?_)
 ·subst h1
  replace F0:=sumR F0
  refine sq rfl (rB [(4,vi (-1))] [] 5000 rfl c0 ?_)
  obtain rfl:=inj F0
  exact ret_pure (q:=[vi (-1)]) [(.int .i64)] rfl rfl (by kernel_rfl)
 refine run_loop rfl (run_loopO hl1 (fun s1=>[(0,.v (.sl .str) x0),(1,vs x1),(7,vi ((length x0:Nat):Int)),(8,vi s1)]) (fun s1=>[]) rfl rfl (fun s1 o1 F1 ih1 hr1=>?_))
 unfold F_slices_Index_string_string_b1 at F1
 refine run_again (sq rfl (rB [(0,.v (.sl .str) x0),(1,vs x1),(7,vi ((length x0:Nat):Int)),(8,vi s1),(9,vb (decide (s1<((length x0:Nat):Int))))] [] 5000 rfl c0 (sq rfl ?_)))
 refine run_if rfl rfl (fun h2=>?_) (fun h2=>?_)
 ·replace F1:=ift h2 F1
  obtain ⟨h3,F1⟩:=ifg F1
  refine sk rfl (sq rfl (bk rfl (sq rfl ?_)))
  refine sE (oE [0,1,5,7,8] [] 5000 rfl (qE rfl (oE [0,1,5,7,8,16] [] 5000 rfl (fA [(0,.v (.sl .str) x0),(1,vs x1),(5,vi s1),(7,vi ((length x0:Nat):Int)),(8,vi s1),(16,vb (x1==(getD x0 (toNat s1) [])))] [] (cc h3 c0) ?_))))
  refine run_if rfl rfl (fun h4=>?_) (fun h4=>?_)
  ·replace F1:=ift h4 F1
   refine sq rfl (rB [(4,vi s1)] [] 5000 rfl c0 ?_)
   have e1:=inrI hr1 F1
   subst e1
   replace F0:=sumL F0
   obtain rfl:=inj F0
   exact ret_pure (q:=[vi s1]) [(.int .i64)] rfl rfl (by kernel_rfl)
  ·replace F1:=ifn h4 F1
   refine sk rfl (eb (rB [(0,.v (.sl .str) x0),(1,vs x1),(7,vi ((length x0:Nat):Int)),(8,vi (wrap .i64 (s1+1)))] [] 5000 rfl c0 ?_))
   exact ih1 _ (inj F1).symm
 ·replace F1:=ifn h2 F1
  refine run_exit rfl rfl (tm (ρ':=[]) (H':=[]) (by kernel_rfl) (by kernel_rfl) rfl ?_)
  exact J1_1 _ (inrI hr1 F1).symm
noncomputable def F_slices_Clone_api_Entry_api_Entry (x0:(List S58.ty)):Option (List S58.ty) :=
 if apOk (0+(length x0)) 56 then (some ([]++x0)) else none
theorem W_slices_Clone_api_Entry_api_Entry {x0:(List S58.ty)} {y:(List S58.ty)} (F0:F_slices_Clone_api_Entry_api_Entry x0=some y):Mut Tryz.prog 43 0 [.v (.sl S58) x0] [] (.row 0) [(0,.row 58 S58 y)]:=by
 unfold F_slices_Clone_api_Entry_api_Entry at F0
 refine mut_of_run @Tryz.call43 @Tryz.func43 rfl rfl fun b=>?_
 refine sq rfl (rB [(0,.v (.sl S58) x0)] [] 5000 rfl c0 (sq rfl (sq rfl ?_)))
 refine run_nilreg (e:=58) (ρ1:=[(3,.v (.sl S58) x0),(0,.v (.sl S58) x0)]) (H1:=[]) [] [] 0 rfl rfl rfl (by kernel_rfl) c0 rfl (by kernel_rfl) rfl rfl (fun h1=>?_) ?_
 ·subst h1
  obtain ⟨_,F0⟩:=ifg F0
  refine run_cond (t:=true) rfl (by kernel_rfl) (sq rfl (rB [(2,.v (.nl .any) ())] [] 5000 rfl c0 (run_nilrow (ρ':=[(2,.row 0)]) 2 0 58 S58 rfl (by kernel_rfl) (by kernel_rfl) ?_)))
  obtain rfl:=inj F0
  exact ret_mut (q:=[.row 0]) [none] [0] rfl rfl (by kernel_rfl) rfl (by kernel_rfl)
 ·refine run_cond (t:=false) rfl (by kernel_rfl) ?_
  obtain ⟨h2,F0⟩:=ifg F0
  refine sk rfl (sq rfl (rB [(2,.row 5040)] [(5040,.row 58 S58 ([]++x0))] 5000 rfl (cc h2.1 (cc h2.2 c0)) (run_ren (ρ':=[(2,.row 0)]) (H':=[(0,.row 58 S58 ([]++x0))]) 5040 0 rfl (by kernel_rfl) rfl (by kernel_rfl) rfl ?_)))
  obtain rfl:=inj F0
  exact ret_mut (q:=[.row 0]) [none] [0] rfl rfl (by kernel_rfl) rfl (by kernel_rfl)
noncomputable def F_slices_Clone_api_Right_api_Right (x0:(List S56.ty)):Option (List S56.ty) :=
 if apOk (0+(length x0)) 32 then (some ([]++x0)) else none
theorem W_slices_Clone_api_Right_api_Right {x0:(List S56.ty)} {y:(List S56.ty)} (F0:F_slices_Clone_api_Right_api_Right x0=some y):Mut Tryz.prog 61 0 [.v (.sl S56) x0] [] (.row 0) [(0,.row 56 S56 y)]:=by
 unfold F_slices_Clone_api_Right_api_Right at F0
 refine mut_of_run @Tryz.call61 @Tryz.func61 rfl rfl fun b=>?_
 refine sq rfl (rB [(0,.v (.sl S56) x0)] [] 5000 rfl c0 (sq rfl (sq rfl ?_)))
 refine run_nilreg (e:=56) (ρ1:=[(3,.v (.sl S56) x0),(0,.v (.sl S56) x0)]) (H1:=[]) [] [] 0 rfl rfl rfl (by kernel_rfl) c0 rfl (by kernel_rfl) rfl rfl (fun h1=>?_) ?_
 ·subst h1
  obtain ⟨_,F0⟩:=ifg F0
  refine run_cond (t:=true) rfl (by kernel_rfl) (sq rfl (rB [(2,.v (.nl .any) ())] [] 5000 rfl c0 (run_nilrow (ρ':=[(2,.row 0)]) 2 0 56 S56 rfl (by kernel_rfl) (by kernel_rfl) ?_)))
  obtain rfl:=inj F0
  exact ret_mut (q:=[.row 0]) [none] [0] rfl rfl (by kernel_rfl) rfl (by kernel_rfl)
 ·refine run_cond (t:=false) rfl (by kernel_rfl) ?_
  obtain ⟨h2,F0⟩:=ifg F0
  refine sk rfl (sq rfl (rB [(2,.row 5040)] [(5040,.row 56 S56 ([]++x0))] 5000 rfl (cc h2.1 (cc h2.2 c0)) (run_ren (ρ':=[(2,.row 0)]) (H':=[(0,.row 56 S56 ([]++x0))]) 5040 0 rfl (by kernel_rfl) rfl (by kernel_rfl) rfl ?_)))
  obtain rfl:=inj F0
  exact ret_mut (q:=[.row 0]) [none] [0] rfl rfl (by kernel_rfl) rfl (by kernel_rfl)
noncomputable def F_slices_Clone_api_Session_api_Session (x0:(List S120.ty)):Option (List S120.ty) :=
 if apOk (0+(length x0)) 16 then (some ([]++x0)) else none
theorem W_slices_Clone_api_Session_api_Session {x0:(List S120.ty)} {y:(List S120.ty)} (F0:F_slices_Clone_api_Session_api_Session x0=some y):Mut Tryz.prog 60 0 [.v (.sl S120) x0] [] (.row 0) [(0,.row 120 S120 y)]:=by
 unfold F_slices_Clone_api_Session_api_Session at F0
 refine mut_of_run @Tryz.call60 @Tryz.func60 rfl rfl fun b=>?_
 refine sq rfl (rB [(0,.v (.sl S120) x0)] [] 5000 rfl c0 (sq rfl (sq rfl ?_)))
 refine run_nilreg (e:=120) (ρ1:=[(3,.v (.sl S120) x0),(0,.v (.sl S120) x0)]) (H1:=[]) [] [] 0 rfl rfl rfl (by kernel_rfl) c0 rfl (by kernel_rfl) rfl rfl (fun h1=>?_) ?_
 ·subst h1
  obtain ⟨_,F0⟩:=ifg F0
  refine run_cond (t:=true) rfl (by kernel_rfl) (sq rfl (rB [(2,.v (.nl .any) ())] [] 5000 rfl c0 (run_nilrow (ρ':=[(2,.row 0)]) 2 0 120 S120 rfl (by kernel_rfl) (by kernel_rfl) ?_)))
  obtain rfl:=inj F0
  exact ret_mut (q:=[.row 0]) [none] [0] rfl rfl (by kernel_rfl) rfl (by kernel_rfl)
 ·refine run_cond (t:=false) rfl (by kernel_rfl) ?_
  obtain ⟨h2,F0⟩:=ifg F0
  refine sk rfl (sq rfl (rB [(2,.row 5040)] [(5040,.row 120 S120 ([]++x0))] 5000 rfl (cc h2.1 (cc h2.2 c0)) (run_ren (ρ':=[(2,.row 0)]) (H':=[(0,.row 120 S120 ([]++x0))]) 5040 0 rfl (by kernel_rfl) rfl (by kernel_rfl) rfl ?_)))
  obtain rfl:=inj F0
  exact ret_mut (q:=[.row 0]) [none] [0] rfl rfl (by kernel_rfl) rfl (by kernel_rfl)
noncomputable def F_slices_Clone_api_Member_api_Member (x0:(List S43.ty)):Option (List S43.ty) :=
 if apOk (0+(length x0)) 24 then (some ([]++x0)) else none
theorem W_slices_Clone_api_Member_api_Member {x0:(List S43.ty)} {y:(List S43.ty)} (F0:F_slices_Clone_api_Member_api_Member x0=some y):Mut Tryz.prog 62 0 [.v (.sl S43) x0] [] (.row 0) [(0,.row 43 S43 y)]:=by
 unfold F_slices_Clone_api_Member_api_Member at F0
 refine mut_of_run @Tryz.call62 @Tryz.func62 rfl rfl fun b=>?_
 refine sq rfl (rB [(0,.v (.sl S43) x0)] [] 5000 rfl c0 (sq rfl (sq rfl ?_)))
 refine run_nilreg (e:=43) (ρ1:=[(3,.v (.sl S43) x0),(0,.v (.sl S43) x0)]) (H1:=[]) [] [] 0 rfl rfl rfl (by kernel_rfl) c0 rfl (by kernel_rfl) rfl rfl (fun h1=>?_) ?_
 ·subst h1
  obtain ⟨_,F0⟩:=ifg F0
  refine run_cond (t:=true) rfl (by kernel_rfl) (sq rfl (rB [(2,.v (.nl .any) ())] [] 5000 rfl c0 (run_nilrow (ρ':=[(2,.row 0)]) 2 0 43 S43 rfl (by kernel_rfl) (by kernel_rfl) ?_)))
  obtain rfl:=inj F0
  exact ret_mut (q:=[.row 0]) [none] [0] rfl rfl (by kernel_rfl) rfl (by kernel_rfl)
 ·refine run_cond (t:=false) rfl (by kernel_rfl) ?_
  obtain ⟨h2,F0⟩:=ifg F0
  refine sk rfl (sq rfl (rB [(2,.row 5040)] [(5040,.row 43 S43 ([]++x0))] 5000 rfl (cc h2.1 (cc h2.2 c0)) (run_ren (ρ':=[(2,.row 0)]) (H':=[(0,.row 43 S43 ([]++x0))]) 5040 0 rfl (by kernel_rfl) rfl (by kernel_rfl) rfl ?_)))
  obtain rfl:=inj F0
  exact ret_mut (q:=[.row 0]) [none] [0] rfl rfl (by kernel_rfl) rfl (by kernel_rfl)
noncomputable def F_slices_Clone_api_Wait_api_Wait (x0:(List S115.ty)):Option (List S115.ty) :=
 if apOk (0+(length x0)) 80 then (some ([]++x0)) else none
theorem W_slices_Clone_api_Wait_api_Wait {x0:(List S115.ty)} {y:(List S115.ty)} (F0:F_slices_Clone_api_Wait_api_Wait x0=some y):Mut Tryz.prog 63 0 [.v (.sl S115) x0] [] (.row 0) [(0,.row 115 S115 y)]:=by
 unfold F_slices_Clone_api_Wait_api_Wait at F0
 refine mut_of_run @Tryz.call63 @Tryz.func63 rfl rfl fun b=>?_
 refine sq rfl (rB [(0,.v (.sl S115) x0)] [] 5000 rfl c0 (sq rfl (sq rfl ?_)))
 refine run_nilreg (e:=115) (ρ1:=[(3,.v (.sl S115) x0),(0,.v (.sl S115) x0)]) (H1:=[]) [] [] 0 rfl rfl rfl (by kernel_rfl) c0 rfl (by kernel_rfl) rfl rfl (fun h1=>?_) ?_
 ·subst h1
  obtain ⟨_,F0⟩:=ifg F0
  refine run_cond (t:=true) rfl (by kernel_rfl) (sq rfl (rB [(2,.v (.nl .any) ())] [] 5000 rfl c0 (run_nilrow (ρ':=[(2,.row 0)]) 2 0 115 S115 rfl (by kernel_rfl) (by kernel_rfl) ?_)))
  obtain rfl:=inj F0
  exact ret_mut (q:=[.row 0]) [none] [0] rfl rfl (by kernel_rfl) rfl (by kernel_rfl)
 ·refine run_cond (t:=false) rfl (by kernel_rfl) ?_
  obtain ⟨h2,F0⟩:=ifg F0
  refine sk rfl (sq rfl (rB [(2,.row 5040)] [(5040,.row 115 S115 ([]++x0))] 5000 rfl (cc h2.1 (cc h2.2 c0)) (run_ren (ρ':=[(2,.row 0)]) (H':=[(0,.row 115 S115 ([]++x0))]) 5040 0 rfl (by kernel_rfl) rfl (by kernel_rfl) rfl ?_)))
  obtain rfl:=inj F0
  exact ret_mut (q:=[.row 0]) [none] [0] rfl rfl (by kernel_rfl) rfl (by kernel_rfl)
abbrev S53:Sh:=(.st (.prod (.int .u64) (.prod (.int .u32) (.prod .str (.int .i64)))))
noncomputable def F_slices_Clone_api_Record_api_Record (x0:(List S53.ty)):Option (List S53.ty) :=
 if apOk (0+(length x0)) 40 then (some ([]++x0)) else none
theorem W_slices_Clone_api_Record_api_Record {x0:(List S53.ty)} {y:(List S53.ty)} (F0:F_slices_Clone_api_Record_api_Record x0=some y):Mut Tryz.prog 64 0 [.v (.sl S53) x0] [] (.row 0) [(0,.row 53 S53 y)]:=by
 unfold F_slices_Clone_api_Record_api_Record at F0
 refine mut_of_run @Tryz.call64 @Tryz.func64 rfl rfl fun b=>?_
 refine sq rfl (rB [(0,.v (.sl S53) x0)] [] 5000 rfl c0 (sq rfl (sq rfl ?_)))
 refine run_nilreg (e:=53) (ρ1:=[(3,.v (.sl S53) x0),(0,.v (.sl S53) x0)]) (H1:=[]) [] [] 0 rfl rfl rfl (by kernel_rfl) c0 rfl (by kernel_rfl) rfl rfl (fun h1=>?_) ?_
 ·subst h1
  obtain ⟨_,F0⟩:=ifg F0
  refine run_cond (t:=true) rfl (by kernel_rfl) (sq rfl (rB [(2,.v (.nl .any) ())] [] 5000 rfl c0 (run_nilrow (ρ':=[(2,.row 0)]) 2 0 53 S53 rfl (by kernel_rfl) (by kernel_rfl) ?_)))
  obtain rfl:=inj F0
  exact ret_mut (q:=[.row 0]) [none] [0] rfl rfl (by kernel_rfl) rfl (by kernel_rfl)
 ·refine run_cond (t:=false) rfl (by kernel_rfl) ?_
  obtain ⟨h2,F0⟩:=ifg F0
  refine sk rfl (sq rfl (rB [(2,.row 5040)] [(5040,.row 53 S53 ([]++x0))] 5000 rfl (cc h2.1 (cc h2.2 c0)) (run_ren (ρ':=[(2,.row 0)]) (H':=[(0,.row 53 S53 ([]++x0))]) 5040 0 rfl (by kernel_rfl) rfl (by kernel_rfl) rfl ?_)))
  obtain rfl:=inj F0
  exact ret_mut (q:=[.row 0]) [none] [0] rfl rfl (by kernel_rfl) rfl (by kernel_rfl)
noncomputable def F_slices_Clone_uint64_uint64 (x0:(List Int)):Option (List Int) :=
 if apOk (0+(length x0)) 8 then (some ([]++x0)) else none
theorem W_slices_Clone_uint64_uint64 {x0:(List Int)} {y:(List Int)} (F0:F_slices_Clone_uint64_uint64 x0=some y):Mut Tryz.prog 35 0 [.v (.sl (.int .u64)) x0] [] (.row 0) [(0,.row 23 (.int .u64) y)]:=by
 unfold F_slices_Clone_uint64_uint64 at F0
 refine mut_of_run @Tryz.call35 @Tryz.func35 rfl rfl fun b=>?_
 refine sq rfl (rB [(0,.v (.sl (.int .u64)) x0)] [] 5000 rfl c0 (sq rfl (sq rfl ?_)))
 refine run_nilreg (e:=23) (ρ1:=[(3,.v (.sl (.int .u64)) x0),(0,.v (.sl (.int .u64)) x0)]) (H1:=[]) [] [] 0 rfl rfl rfl (by kernel_rfl) c0 rfl (by kernel_rfl) rfl rfl (fun h1=>?_) ?_
 ·subst h1
  obtain ⟨_,F0⟩:=ifg F0
  refine run_cond (t:=true) rfl (by kernel_rfl) (sq rfl (rB [(2,.v (.nl .any) ())] [] 5000 rfl c0 (run_nilrow (ρ':=[(2,.row 0)]) 2 0 23 (.int .u64) rfl (by kernel_rfl) (by kernel_rfl) ?_)))
  obtain rfl:=inj F0
  exact ret_mut (q:=[.row 0]) [none] [0] rfl rfl (by kernel_rfl) rfl (by kernel_rfl)
 ·refine run_cond (t:=false) rfl (by kernel_rfl) ?_
  obtain ⟨h2,F0⟩:=ifg F0
  refine sk rfl (sq rfl (rB [(2,.row 5040)] [(5040,.row 23 (.int .u64) ([]++x0))] 5000 rfl (cc h2.1 (cc h2.2 c0)) (run_ren (ρ':=[(2,.row 0)]) (H':=[(0,.row 23 (.int .u64) ([]++x0))]) 5040 0 rfl (by kernel_rfl) rfl (by kernel_rfl) rfl ?_)))
  obtain rfl:=inj F0
  exact ret_mut (q:=[.row 0]) [none] [0] rfl rfl (by kernel_rfl) rfl (by kernel_rfl)
noncomputable def F_slices_Delete_api_Entry_api_Entry (x0:(List S58.ty)) (x1:Int) (x2:Int):Option (List S58.ty) :=
 if ((0:Int)≤x1∧(0:Int)≤x2∧(0:Int)≤((length x0:Nat):Int)∧toNat x1≤toNat x2∧toNat x2≤toNat ((length x0:Nat):Int)∧toNat ((length x0:Nat):Int)≤length x0) then (if (x1==x2)=true then some x0 else if ((0:Int)≤x1∧0≤toNat x1∧toNat x1≤length x0) then (if ((0:Int)≤x2∧toNat x2≤length x0∧length x0≤length x0) then (if ((toNat x2)+(length x0-toNat x2)≤length x0∧(toNat x1-0)+length (take (length x0-toNat x2) (drop (toNat x2) x0))≤length x0) then (if ((0:Int)≤((((toNat x1-0)+length (take (length x0-toNat x2) (drop (toNat x2) x0))):Nat):Int)∧(0:Int)≤((length x0:Nat):Int)∧toNat ((((toNat x1-0)+length (take (length x0-toNat x2) (drop (toNat x2) x0))):Nat):Int)≤toNat ((length x0:Nat):Int)∧0+(toNat ((length x0:Nat):Int))≤length (take (toNat x1-0) x0++((take (length x0-toNat x2) (drop (toNat x2) x0))++drop ((toNat x1-0)+length (take (length x0-toNat x2) (drop (toNat x2) x0))) x0))) then (if (0+(toNat ((((toNat x1-0)+length (take (length x0-toNat x2) (drop (toNat x2) x0))):Nat):Int)))+(toNat ((length x0:Nat):Int)-toNat ((((toNat x1-0)+length (take (length x0-toNat x2) (drop (toNat x2) x0))):Nat):Int))≤length (take (toNat x1-0) x0++((take (length x0-toNat x2) (drop (toNat x2) x0))++drop ((toNat x1-0)+length (take (length x0-toNat x2) (drop (toNat x2) x0))) x0)) then (if ((toNat x1-0)+length (take (length x0-toNat x2) (drop (toNat x2) x0)))≤length (take (0+(toNat ((((toNat x1-0)+length (take (length x0-toNat x2) (drop (toNat x2) x0))):Nat):Int))) (take (toNat x1-0) x0++((take (length x0-toNat x2) (drop (toNat x2) x0))++drop ((toNat x1-0)+length (take (length x0-toNat x2) (drop (toNat x2) x0))) x0))++(replicate (toNat ((length x0:Nat):Int)-toNat ((((toNat x1-0)+length (take (length x0-toNat x2) (drop (toNat x2) x0))):Nat):Int)) S58.dflt++drop ((0+(toNat ((((toNat x1-0)+length (take (length x0-toNat x2) (drop (toNat x2) x0))):Nat):Int)))+(toNat ((length x0:Nat):Int)-toNat ((((toNat x1-0)+length (take (length x0-toNat x2) (drop (toNat x2) x0))):Nat):Int))) (take (toNat x1-0) x0++((take (length x0-toNat x2) (drop (toNat x2) x0))++drop ((toNat x1-0)+length (take (length x0-toNat x2) (drop (toNat x2) x0))) x0)))) then some (take ((toNat x1-0)+length (take (length x0-toNat x2) (drop (toNat x2) x0))) (take (0+(toNat ((((toNat x1-0)+length (take (length x0-toNat x2) (drop (toNat x2) x0))):Nat):Int))) (take (toNat x1-0) x0++((take (length x0-toNat x2) (drop (toNat x2) x0))++drop ((toNat x1-0)+length (take (length x0-toNat x2) (drop (toNat x2) x0))) x0))++(replicate (toNat ((length x0:Nat):Int)-toNat ((((toNat x1-0)+length (take (length x0-toNat x2) (drop (toNat x2) x0))):Nat):Int)) S58.dflt++drop ((0+(toNat ((((toNat x1-0)+length (take (length x0-toNat x2) (drop (toNat x2) x0))):Nat):Int)))+(toNat ((length x0:Nat):Int)-toNat ((((toNat x1-0)+length (take (length x0-toNat x2) (drop (toNat x2) x0))):Nat):Int))) (take (toNat x1-0) x0++((take (length x0-toNat x2) (drop (toNat x2) x0))++drop ((toNat x1-0)+length (take (length x0-toNat x2) (drop (toNat x2) x0))) x0))))) else none) else none) else none) else none) else none) else none) else none
theorem W_slices_Delete_api_Entry_api_Entry {x0:(List S58.ty)} {x1:Int} {x2:Int} {y:(List S58.ty)} (F0:F_slices_Delete_api_Entry_api_Entry x0 x1 x2=some y):Mut Tryz.prog 44 1 [.row 0,vi x1,vi x2] [(0,.row 58 S58 x0)] (.row 1) [(1,.row 58 S58 y)]:=by
 unfold F_slices_Delete_api_Entry_api_Entry at F0
 refine mut_of_run @Tryz.call44 @Tryz.func44 rfl rfl fun b=>?_
 obtain ⟨h1,F0⟩:=ifg F0
 refine sq rfl ?_
 refine sE (oE [0,1,2] [0] 5000 rfl (qE rfl (oE [0,1,2] [0] 5000 rfl (qE rfl (qE rfl (oE [0,1,2,16] [0] 5000 rfl (fA [(0,.row 0),(1,vi x1),(2,vi x2),(16,vb (x1==x2))] [(0,.row 58 S58 x0)] (cc h1.1 (cc h1.2.1 (cc h1.2.2.1 (cc h1.2.2.2.1 (cc h1.2.2.2.2.1 (cc h1.2.2.2.2.2 c0)))))) ?_)))))))
 refine run_if rfl rfl (fun h2=>?_) (fun h2=>?_)
 ·replace F0:=ift h2 F0
  refine sq rfl (rB [(6,.row 0)] [(0,.row 58 S58 x0)] 5000 rfl c0 (run_ren (ρ':=[(6,.row 1)]) (H':=[(1,.row 58 S58 x0)]) 0 1 rfl (by kernel_rfl) rfl (by kernel_rfl) rfl ?_))
  obtain rfl:=inj F0
  exact ret_mut (q:=[.row 1]) [none] [1] rfl rfl (by kernel_rfl) rfl (by kernel_rfl)
 ·replace F0:=ifn h2 F0
  obtain ⟨h3,F0⟩:=ifg F0
  obtain ⟨h4,F0⟩:=ifg F0
  obtain ⟨h5,F0⟩:=ifg F0
  obtain ⟨h6,F0⟩:=ifg F0
  obtain ⟨h7,F0⟩:=ifg F0
  obtain ⟨h8,F0⟩:=ifg F0
  refine sk rfl (sq rfl ?_)
  refine sE (oE [0,1,2,7] [0] 5000 rfl (qE rfl (gE [0,7] [0] [] [] 5000 rfl rfl (qE rfl (oE [0] [0] 5000 rfl (qE rfl (oE [6] [0] 5000 rfl (fA [(6,.sub 0 6 0 ((toNat x1-0)+length (take (length x0-toNat x2) (drop (toNat x2) x0))))] [(0,.row 58 S58 (take (0+(toNat ((((toNat x1-0)+length (take (length x0-toNat x2) (drop (toNat x2) x0))):Nat):Int))) (take (toNat x1-0) x0++((take (length x0-toNat x2) (drop (toNat x2) x0))++drop ((toNat x1-0)+length (take (length x0-toNat x2) (drop (toNat x2) x0))) x0))++(replicate (toNat ((length x0:Nat):Int)-toNat ((((toNat x1-0)+length (take (length x0-toNat x2) (drop (toNat x2) x0))):Nat):Int)) S58.dflt++drop ((0+(toNat ((((toNat x1-0)+length (take (length x0-toNat x2) (drop (toNat x2) x0))):Nat):Int)))+(toNat ((length x0:Nat):Int)-toNat ((((toNat x1-0)+length (take (length x0-toNat x2) (drop (toNat x2) x0))):Nat):Int))) (take (toNat x1-0) x0++((take (length x0-toNat x2) (drop (toNat x2) x0))++drop ((toNat x1-0)+length (take (length x0-toNat x2) (drop (toNat x2) x0))) x0)))))] (cc h3.1 (cc h3.2.1 (cc h3.2.2 (cc h4.1 (cc h4.2.1 (cc h4.2.2 (cc h5.1 (cc h5.2 (cc h6.1 (cc h6.2.1 (cc h6.2.2.1 (cc h6.2.2.2 (cc h7 c0))))))))))))) (run_subrow (H':=[(1,.row 58 S58 (take ((toNat x1-0)+length (take (length x0-toNat x2) (drop (toNat x2) x0))) (take (0+(toNat ((((toNat x1-0)+length (take (length x0-toNat x2) (drop (toNat x2) x0))):Nat):Int))) (take (toNat x1-0) x0++((take (length x0-toNat x2) (drop (toNat x2) x0))++drop ((toNat x1-0)+length (take (length x0-toNat x2) (drop (toNat x2) x0))) x0))++(replicate (toNat ((length x0:Nat):Int)-toNat ((((toNat x1-0)+length (take (length x0-toNat x2) (drop (toNat x2) x0))):Nat):Int)) S58.dflt++drop ((0+(toNat ((((toNat x1-0)+length (take (length x0-toNat x2) (drop (toNat x2) x0))):Nat):Int)))+(toNat ((length x0:Nat):Int)-toNat ((((toNat x1-0)+length (take (length x0-toNat x2) (drop (toNat x2) x0))):Nat):Int))) (take (toNat x1-0) x0++((take (length x0-toNat x2) (drop (toNat x2) x0))++drop ((toNat x1-0)+length (take (length x0-toNat x2) (drop (toNat x2) x0))) x0))))))]) 6 0 ((toNat x1-0)+length (take (length x0-toNat x2) (drop (toNat x2) x0))) 1 rfl (by kernel_rfl) rfl h8 rfl rfl (tm (ρ':=[(6,.row 1)]) (H':=[(1,.row 58 S58 (take ((toNat x1-0)+length (take (length x0-toNat x2) (drop (toNat x2) x0))) (take (0+(toNat ((((toNat x1-0)+length (take (length x0-toNat x2) (drop (toNat x2) x0))):Nat):Int))) (take (toNat x1-0) x0++((take (length x0-toNat x2) (drop (toNat x2) x0))++drop ((toNat x1-0)+length (take (length x0-toNat x2) (drop (toNat x2) x0))) x0))++(replicate (toNat ((length x0:Nat):Int)-toNat ((((toNat x1-0)+length (take (length x0-toNat x2) (drop (toNat x2) x0))):Nat):Int)) S58.dflt++drop ((0+(toNat ((((toNat x1-0)+length (take (length x0-toNat x2) (drop (toNat x2) x0))):Nat):Int)))+(toNat ((length x0:Nat):Int)-toNat ((((toNat x1-0)+length (take (length x0-toNat x2) (drop (toNat x2) x0))):Nat):Int))) (take (toNat x1-0) x0++((take (length x0-toNat x2) (drop (toNat x2) x0))++drop ((toNat x1-0)+length (take (length x0-toNat x2) (drop (toNat x2) x0))) x0))))))]) (by kernel_rfl) (by kernel_rfl) rfl ?_))))))))))
  obtain rfl:=inj F0
  exact ret_mut (q:=[.row 1]) [none] [1] rfl rfl (by kernel_rfl) rfl (by kernel_rfl)
noncomputable def F_slices_Delete_api_Session_api_Session (x0:(List S120.ty)) (x1:Int) (x2:Int):Option (List S120.ty) :=
 if ((0:Int)≤x1∧(0:Int)≤x2∧(0:Int)≤((length x0:Nat):Int)∧toNat x1≤toNat x2∧toNat x2≤toNat ((length x0:Nat):Int)∧toNat ((length x0:Nat):Int)≤length x0) then (if (x1==x2)=true then some x0 else if ((0:Int)≤x1∧0≤toNat x1∧toNat x1≤length x0) then (if ((0:Int)≤x2∧toNat x2≤length x0∧length x0≤length x0) then (if ((toNat x2)+(length x0-toNat x2)≤length x0∧(toNat x1-0)+length (take (length x0-toNat x2) (drop (toNat x2) x0))≤length x0) then (if ((0:Int)≤((((toNat x1-0)+length (take (length x0-toNat x2) (drop (toNat x2) x0))):Nat):Int)∧(0:Int)≤((length x0:Nat):Int)∧toNat ((((toNat x1-0)+length (take (length x0-toNat x2) (drop (toNat x2) x0))):Nat):Int)≤toNat ((length x0:Nat):Int)∧0+(toNat ((length x0:Nat):Int))≤length (take (toNat x1-0) x0++((take (length x0-toNat x2) (drop (toNat x2) x0))++drop ((toNat x1-0)+length (take (length x0-toNat x2) (drop (toNat x2) x0))) x0))) then (if (0+(toNat ((((toNat x1-0)+length (take (length x0-toNat x2) (drop (toNat x2) x0))):Nat):Int)))+(toNat ((length x0:Nat):Int)-toNat ((((toNat x1-0)+length (take (length x0-toNat x2) (drop (toNat x2) x0))):Nat):Int))≤length (take (toNat x1-0) x0++((take (length x0-toNat x2) (drop (toNat x2) x0))++drop ((toNat x1-0)+length (take (length x0-toNat x2) (drop (toNat x2) x0))) x0)) then (if ((toNat x1-0)+length (take (length x0-toNat x2) (drop (toNat x2) x0)))≤length (take (0+(toNat ((((toNat x1-0)+length (take (length x0-toNat x2) (drop (toNat x2) x0))):Nat):Int))) (take (toNat x1-0) x0++((take (length x0-toNat x2) (drop (toNat x2) x0))++drop ((toNat x1-0)+length (take (length x0-toNat x2) (drop (toNat x2) x0))) x0))++(replicate (toNat ((length x0:Nat):Int)-toNat ((((toNat x1-0)+length (take (length x0-toNat x2) (drop (toNat x2) x0))):Nat):Int)) S120.dflt++drop ((0+(toNat ((((toNat x1-0)+length (take (length x0-toNat x2) (drop (toNat x2) x0))):Nat):Int)))+(toNat ((length x0:Nat):Int)-toNat ((((toNat x1-0)+length (take (length x0-toNat x2) (drop (toNat x2) x0))):Nat):Int))) (take (toNat x1-0) x0++((take (length x0-toNat x2) (drop (toNat x2) x0))++drop ((toNat x1-0)+length (take (length x0-toNat x2) (drop (toNat x2) x0))) x0)))) then some (take ((toNat x1-0)+length (take (length x0-toNat x2) (drop (toNat x2) x0))) (take (0+(toNat ((((toNat x1-0)+length (take (length x0-toNat x2) (drop (toNat x2) x0))):Nat):Int))) (take (toNat x1-0) x0++((take (length x0-toNat x2) (drop (toNat x2) x0))++drop ((toNat x1-0)+length (take (length x0-toNat x2) (drop (toNat x2) x0))) x0))++(replicate (toNat ((length x0:Nat):Int)-toNat ((((toNat x1-0)+length (take (length x0-toNat x2) (drop (toNat x2) x0))):Nat):Int)) S120.dflt++drop ((0+(toNat ((((toNat x1-0)+length (take (length x0-toNat x2) (drop (toNat x2) x0))):Nat):Int)))+(toNat ((length x0:Nat):Int)-toNat ((((toNat x1-0)+length (take (length x0-toNat x2) (drop (toNat x2) x0))):Nat):Int))) (take (toNat x1-0) x0++((take (length x0-toNat x2) (drop (toNat x2) x0))++drop ((toNat x1-0)+length (take (length x0-toNat x2) (drop (toNat x2) x0))) x0))))) else none) else none) else none) else none) else none) else none) else none
theorem W_slices_Delete_api_Session_api_Session {x0:(List S120.ty)} {x1:Int} {x2:Int} {y:(List S120.ty)} (F0:F_slices_Delete_api_Session_api_Session x0 x1 x2=some y):Mut Tryz.prog 179 1 [.row 0,vi x1,vi x2] [(0,.row 120 S120 x0)] (.row 1) [(1,.row 120 S120 y)]:=by
 unfold F_slices_Delete_api_Session_api_Session at F0
 refine mut_of_run @Tryz.call179 @Tryz.func179 rfl rfl fun b=>?_
 obtain ⟨h1,F0⟩:=ifg F0
 refine sq rfl ?_
 refine sE (oE [0,1,2] [0] 5000 rfl (qE rfl (oE [0,1,2] [0] 5000 rfl (qE rfl (qE rfl (oE [0,1,2,16] [0] 5000 rfl (fA [(0,.row 0),(1,vi x1),(2,vi x2),(16,vb (x1==x2))] [(0,.row 120 S120 x0)] (cc h1.1 (cc h1.2.1 (cc h1.2.2.1 (cc h1.2.2.2.1 (cc h1.2.2.2.2.1 (cc h1.2.2.2.2.2 c0)))))) ?_)))))))
 refine run_if rfl rfl (fun h2=>?_) (fun h2=>?_)
 ·replace F0:=ift h2 F0
  refine sq rfl (rB [(6,.row 0)] [(0,.row 120 S120 x0)] 5000 rfl c0 (run_ren (ρ':=[(6,.row 1)]) (H':=[(1,.row 120 S120 x0)]) 0 1 rfl (by kernel_rfl) rfl (by kernel_rfl) rfl ?_))
  obtain rfl:=inj F0
  exact ret_mut (q:=[.row 1]) [none] [1] rfl rfl (by kernel_rfl) rfl (by kernel_rfl)
 ·replace F0:=ifn h2 F0
  obtain ⟨h3,F0⟩:=ifg F0
  obtain ⟨h4,F0⟩:=ifg F0
  obtain ⟨h5,F0⟩:=ifg F0
  obtain ⟨h6,F0⟩:=ifg F0
  obtain ⟨h7,F0⟩:=ifg F0
  obtain ⟨h8,F0⟩:=ifg F0
  refine sk rfl (sq rfl ?_)
  refine sE (oE [0,1,2,7] [0] 5000 rfl (qE rfl (gE [0,7] [0] [] [] 5000 rfl rfl (qE rfl (oE [0] [0] 5000 rfl (qE rfl (oE [6] [0] 5000 rfl (fA [(6,.sub 0 2 0 ((toNat x1-0)+length (take (length x0-toNat x2) (drop (toNat x2) x0))))] [(0,.row 120 S120 (take (0+(toNat ((((toNat x1-0)+length (take (length x0-toNat x2) (drop (toNat x2) x0))):Nat):Int))) (take (toNat x1-0) x0++((take (length x0-toNat x2) (drop (toNat x2) x0))++drop ((toNat x1-0)+length (take (length x0-toNat x2) (drop (toNat x2) x0))) x0))++(replicate (toNat ((length x0:Nat):Int)-toNat ((((toNat x1-0)+length (take (length x0-toNat x2) (drop (toNat x2) x0))):Nat):Int)) S120.dflt++drop ((0+(toNat ((((toNat x1-0)+length (take (length x0-toNat x2) (drop (toNat x2) x0))):Nat):Int)))+(toNat ((length x0:Nat):Int)-toNat ((((toNat x1-0)+length (take (length x0-toNat x2) (drop (toNat x2) x0))):Nat):Int))) (take (toNat x1-0) x0++((take (length x0-toNat x2) (drop (toNat x2) x0))++drop ((toNat x1-0)+length (take (length x0-toNat x2) (drop (toNat x2) x0))) x0)))))] (cc h3.1 (cc h3.2.1 (cc h3.2.2 (cc h4.1 (cc h4.2.1 (cc h4.2.2 (cc h5.1 (cc h5.2 (cc h6.1 (cc h6.2.1 (cc h6.2.2.1 (cc h6.2.2.2 (cc h7 c0))))))))))))) (run_subrow (H':=[(1,.row 120 S120 (take ((toNat x1-0)+length (take (length x0-toNat x2) (drop (toNat x2) x0))) (take (0+(toNat ((((toNat x1-0)+length (take (length x0-toNat x2) (drop (toNat x2) x0))):Nat):Int))) (take (toNat x1-0) x0++((take (length x0-toNat x2) (drop (toNat x2) x0))++drop ((toNat x1-0)+length (take (length x0-toNat x2) (drop (toNat x2) x0))) x0))++(replicate (toNat ((length x0:Nat):Int)-toNat ((((toNat x1-0)+length (take (length x0-toNat x2) (drop (toNat x2) x0))):Nat):Int)) S120.dflt++drop ((0+(toNat ((((toNat x1-0)+length (take (length x0-toNat x2) (drop (toNat x2) x0))):Nat):Int)))+(toNat ((length x0:Nat):Int)-toNat ((((toNat x1-0)+length (take (length x0-toNat x2) (drop (toNat x2) x0))):Nat):Int))) (take (toNat x1-0) x0++((take (length x0-toNat x2) (drop (toNat x2) x0))++drop ((toNat x1-0)+length (take (length x0-toNat x2) (drop (toNat x2) x0))) x0))))))]) 6 0 ((toNat x1-0)+length (take (length x0-toNat x2) (drop (toNat x2) x0))) 1 rfl (by kernel_rfl) rfl h8 rfl rfl (tm (ρ':=[(6,.row 1)]) (H':=[(1,.row 120 S120 (take ((toNat x1-0)+length (take (length x0-toNat x2) (drop (toNat x2) x0))) (take (0+(toNat ((((toNat x1-0)+length (take (length x0-toNat x2) (drop (toNat x2) x0))):Nat):Int))) (take (toNat x1-0) x0++((take (length x0-toNat x2) (drop (toNat x2) x0))++drop ((toNat x1-0)+length (take (length x0-toNat x2) (drop (toNat x2) x0))) x0))++(replicate (toNat ((length x0:Nat):Int)-toNat ((((toNat x1-0)+length (take (length x0-toNat x2) (drop (toNat x2) x0))):Nat):Int)) S120.dflt++drop ((0+(toNat ((((toNat x1-0)+length (take (length x0-toNat x2) (drop (toNat x2) x0))):Nat):Int)))+(toNat ((length x0:Nat):Int)-toNat ((((toNat x1-0)+length (take (length x0-toNat x2) (drop (toNat x2) x0))):Nat):Int))) (take (toNat x1-0) x0++((take (length x0-toNat x2) (drop (toNat x2) x0))++drop ((toNat x1-0)+length (take (length x0-toNat x2) (drop (toNat x2) x0))) x0))))))]) (by kernel_rfl) (by kernel_rfl) rfl ?_))))))))))
  obtain rfl:=inj F0
  exact ret_mut (q:=[.row 1]) [none] [1] rfl rfl (by kernel_rfl) rfl (by kernel_rfl)
noncomputable def F_slices_DeleteFunc_api_Entry_api_Entry_b1 (x1:(S58.ty→Option Bool)) (s1:(Int×Int×(List S58.ty))):Option ((Int×Int×(List S58.ty))⊕(Int×(List S58.ty))) :=
 if (decide (s1.2.1<((length s1.2.2:Nat):Int)))=true then if 0≤s1.2.1∧s1.2.1<((length s1.2.2:Nat):Int) then (x1 (getD s1.2.2 (toNat s1.2.1) S58.dflt)).bind fun t2=>(if (!t2)=true then if 0≤s1.1∧s1.1<((length s1.2.2:Nat):Int) then (some (Sum.inl (wrap .i64 (s1.1+1),wrap .i64 (s1.2.1+1),List.set s1.2.2 (toNat s1.1) (getD s1.2.2 (toNat s1.2.1) S58.dflt)))) else none else some (Sum.inl (s1.1,wrap .i64 (s1.2.1+1),s1.2.2))) else none else some (Sum.inr (s1.1,s1.2.2))
noncomputable def F_slices_DeleteFunc_api_Entry_api_Entry (x0:(List S58.ty)) (x1:(S58.ty→Option Bool)):Option (List S58.ty) :=
 (F_slices_IndexFunc_api_Entry_api_Entry x0 x1).bind fun t1=>(if (t1==(-1))=true then some x0 else (loopO (F_slices_DeleteFunc_api_Entry_api_Entry_b1 x1) (t1,wrap .i64 (t1+1),x0)).bind (fun r1=>if ((0:Int)≤r1.1∧toNat r1.1≤length r1.2∧length r1.2≤length r1.2) then (if (toNat r1.1)+(length r1.2-toNat r1.1)≤length r1.2 then (if ((0:Int)≤r1.1∧0≤toNat r1.1∧toNat r1.1≤length (take (toNat r1.1) r1.2++(replicate (length r1.2-toNat r1.1) S58.dflt++drop ((toNat r1.1)+(length r1.2-toNat r1.1)) r1.2))) then (if (toNat r1.1-0)≤length (take (toNat r1.1) r1.2++(replicate (length r1.2-toNat r1.1) S58.dflt++drop ((toNat r1.1)+(length r1.2-toNat r1.1)) r1.2)) then some (take (toNat r1.1-0) (take (toNat r1.1) r1.2++(replicate (length r1.2-toNat r1.1) S58.dflt++drop ((toNat r1.1)+(length r1.2-toNat r1.1)) r1.2))) else none) else none) else none) else none))
theorem W_slices_DeleteFunc_api_Entry_api_Entry {x0:(List S58.ty)} {x1:(S58.ty→Option Bool)} {y:(List S58.ty)} (F0:F_slices_DeleteFunc_api_Entry_api_Entry x0 x1=some y):Mut Tryz.prog 113 1 [.row 0,.v (.fn S58 .bool) x1] [(0,.row 58 S58 x0)] (.row 1) [(1,.row 58 S58 y)]:=by
 unfold F_slices_DeleteFunc_api_Entry_api_Entry at F0
 refine mut_of_run @Tryz.call113 @Tryz.func113 rfl rfl fun b=>?_
 obtain ⟨t1,h1,F0⟩:=obd F0
 refine sq rfl ?_
 refine sE (oE [0,1] [0] 5000 rfl (qE rfl (rE [0,1,5] [0] [(2,⟨[.v (.sl S58),.v (.fn S58 .bool)],vi t1,none⟩)] [] 5000 rfl (qE rfl (qE rfl (oE [0,1,5,12] [0] 5000 rfl (fA [(0,.row 0),(1,.v (.fn S58 .bool) x1),(5,vi t1),(12,vb (t1==(-1)))] [(0,.row 58 S58 x0)] (cc (W_slices_IndexFunc_api_Entry_api_Entry h1) c0) ?_)))))))
 refine run_if rfl rfl (fun h2=>?_) (fun h2=>?_)
 ·replace F0:=ift h2 F0
  refine sq rfl (rB [(4,.row 0)] [(0,.row 58 S58 x0)] 5000 rfl c0 (run_ren (ρ':=[(4,.row 1)]) (H':=[(1,.row 58 S58 x0)]) 0 1 rfl (by kernel_rfl) rfl (by kernel_rfl) rfl ?_))
  obtain rfl:=inj F0
  exact ret_mut (q:=[.row 1]) [none] [1] rfl rfl (by kernel_rfl) rfl (by kernel_rfl)
 ·replace F0:=ifn h2 F0
  obtain ⟨r1,hl1,F0⟩:=obd F0
  refine sk rfl (sq rfl (sq rfl (rB [(0,.row 0),(1,.v (.fn S58 .bool) x1),(5,vi t1),(6,vi (wrap .i64 (t1+1)))] [(0,.row 58 S58 x0)] 5000 rfl c0 (bk rfl ?_))))
  refine run_cutx 0 rfl (fun r1'=>r1=r1') (fun r1=>[(0,.row 0),(5,vi r1.1)]) (fun r1=>[(0,.row 58 S58 r1.2)]) (fun r1' h3=>?_) (fun J1_0=>?_)
  ·subst h3
   obtain ⟨h4,F0⟩:=ifg F0
   obtain ⟨h5,F0⟩:=ifg F0
   obtain ⟨h6,F0⟩:=ifg F0
   obtain ⟨h7,F0⟩:=ifg F0
   refine sq rfl ?_
   refine sE (oE [0,5] [0] 5000 rfl (qE rfl (oE [4] [0] 5000 rfl (fA [(4,.sub 0 6 0 (toNat r1.1-0))] [(0,.row 58 S58 (take (toNat r1.1) r1.2++(replicate (length r1.2-toNat r1.1) S58.dflt++drop ((toNat r1.1)+(length r1.2-toNat r1.1)) r1.2)))] (cc h4.1 (cc h4.2.1 (cc h4.2.2 (cc h5 (cc h6.1 (cc h6.2.1 (cc h6.2.2 c0))))))) (run_subrow (H':=[(1,.row 58 S58 (take (toNat r1.1-0) (take (toNat r1.1) r1.2++(replicate (length r1.2-toNat r1.1) S58.dflt++drop ((toNat r1.1)+(length r1.2-toNat r1.1)) r1.2))))]) 4 0 (toNat r1.1-0) 1 rfl (by kernel_rfl) rfl h7 rfl rfl (tm (ρ':=[(4,.row 1)]) (H':=[(1,.row 58 S58 (take (toNat r1.1-0) (take (toNat r1.1) r1.2++(replicate (length r1.2-toNat r1.1) S58.dflt++drop ((toNat r1.1)+(length r1.2-toNat r1.1)) r1.2))))]) (by kernel_rfl) (by kernel_rfl) rfl ?_))))))
   obtain rfl:=inj F0
   exact ret_mut (q:=[.row 1]) [none] [1] rfl rfl (by kernel_rfl) rfl (by kernel_rfl)
  refine run_loop rfl (run_loopO hl1 (fun s1=>[(0,.row 0),(1,.v (.fn S58 .bool) x1),(5,vi s1.1),(6,vi s1.2.1)]) (fun s1=>[(0,.row 58 S58 s1.2.2)]) rfl rfl (fun s1 o1 F1 ih1 hr1=>?_))
  unfold F_slices_DeleteFunc_api_Entry_api_Entry_b1 at F1
  refine run_again (sq rfl (sq rfl (rB [(0,.row 0),(1,.v (.fn S58 .bool) x1),(5,vi s1.1),(6,vi s1.2.1),(19,vb (decide (s1.2.1<((length s1.2.2:Nat):Int))))] [(0,.row 58 S58 s1.2.2)] 5000 rfl c0 ?_)))
  refine run_if rfl rfl (fun h8=>?_) (fun h8=>?_)
  ·replace F1:=ift h8 F1
   obtain ⟨h9,F1⟩:=ifg F1
   obtain ⟨t2,h10,F1⟩:=obd F1
   refine sk rfl (sq rfl (bk rfl (sq rfl ?_)))
   refine sE (oE [0,1,5,6,7] [0,5080] 5000 rfl (qE rfl (rE [0,1,5,6,7,29] [0,5080] [(2,⟨[],vb t2,none⟩)] [] 5081 rfl (fA [(0,.row 0),(1,.v (.fn S58 .bool) x1),(5,vi s1.1),(6,vi s1.2.1),(7,.ptr 5080 [] 0),(29,vb (!t2))] [(0,.row 58 S58 s1.2.2),(5080,.var 58 S58 (getD s1.2.2 (toNat s1.2.1) S58.dflt))] (cc h9 (cc (@rfl Nat (toNat s1.2.1*6)) (cc (oo h9 trivial) (cc h10 c0)))) ?_))))
   refine run_if rfl rfl (fun h11=>?_) (fun h11=>?_)
   ·replace F1:=ift h11 F1
    obtain ⟨h12,F1⟩:=ifg F1
    refine sq rfl ?_
    refine sE (oE [0,1,5,6] [0] 5081 rfl (oE [0,1,5,6] [0] 5000 rfl (eE (oE [0,1,5,6] [0] 5000 rfl (fA [(0,.row 0),(1,.v (.fn S58 .bool) x1),(5,vi (wrap .i64 (s1.1+1))),(6,vi (wrap .i64 (s1.2.1+1)))] [(0,.row 58 S58 (List.set s1.2.2 (toNat s1.1) (getD s1.2.2 (toNat s1.2.1) S58.dflt)))] (cc h12 (cc (@rfl Nat (toNat s1.1*6)) (cc (oo h12 trivial) c0))) ?_)))))
    exact ih1 _ (inj F1).symm
   ·replace F1:=ifn h11 F1
    refine sk rfl (eb (rB [(0,.row 0),(1,.v (.fn S58 .bool) x1),(5,vi s1.1),(6,vi (wrap .i64 (s1.2.1+1)))] [(0,.row 58 S58 s1.2.2)] 5081 rfl c0 ?_))
    exact ih1 _ (inj F1).symm
  ·replace F1:=ifn h8 F1
   refine run_exit rfl rfl (tm (ρ':=[(0,.row 0),(5,vi s1.1)]) (H':=[(0,.row 58 S58 s1.2.2)]) (by kernel_rfl) (by kernel_rfl) rfl ?_)
   exact J1_0 _ (inrI hr1 F1).symm
noncomputable def F_slices_DeleteFunc_api_Member_api_Member_b1 (x1:(S43.ty→Option Bool)) (s1:(Int×Int×(List S43.ty))):Option ((Int×Int×(List S43.ty))⊕(Int×(List S43.ty))) :=
 if (decide (s1.2.1<((length s1.2.2:Nat):Int)))=true then if 0≤s1.2.1∧s1.2.1<((length s1.2.2:Nat):Int) then (x1 (getD s1.2.2 (toNat s1.2.1) S43.dflt)).bind fun t2=>(if (!t2)=true then if 0≤s1.1∧s1.1<((length s1.2.2:Nat):Int) then (some (Sum.inl (wrap .i64 (s1.1+1),wrap .i64 (s1.2.1+1),List.set s1.2.2 (toNat s1.1) (getD s1.2.2 (toNat s1.2.1) S43.dflt)))) else none else some (Sum.inl (s1.1,wrap .i64 (s1.2.1+1),s1.2.2))) else none else some (Sum.inr (s1.1,s1.2.2))
noncomputable def F_slices_DeleteFunc_api_Member_api_Member (x0:(List S43.ty)) (x1:(S43.ty→Option Bool)):Option (List S43.ty) :=
 (F_slices_IndexFunc_api_Member_api_Member x0 x1).bind fun t1=>(if (t1==(-1))=true then some x0 else (loopO (F_slices_DeleteFunc_api_Member_api_Member_b1 x1) (t1,wrap .i64 (t1+1),x0)).bind (fun r1=>if ((0:Int)≤r1.1∧toNat r1.1≤length r1.2∧length r1.2≤length r1.2) then (if (toNat r1.1)+(length r1.2-toNat r1.1)≤length r1.2 then (if ((0:Int)≤r1.1∧0≤toNat r1.1∧toNat r1.1≤length (take (toNat r1.1) r1.2++(replicate (length r1.2-toNat r1.1) S43.dflt++drop ((toNat r1.1)+(length r1.2-toNat r1.1)) r1.2))) then (if (toNat r1.1-0)≤length (take (toNat r1.1) r1.2++(replicate (length r1.2-toNat r1.1) S43.dflt++drop ((toNat r1.1)+(length r1.2-toNat r1.1)) r1.2)) then some (take (toNat r1.1-0) (take (toNat r1.1) r1.2++(replicate (length r1.2-toNat r1.1) S43.dflt++drop ((toNat r1.1)+(length r1.2-toNat r1.1)) r1.2))) else none) else none) else none) else none))
theorem W_slices_DeleteFunc_api_Member_api_Member {x0:(List S43.ty)} {x1:(S43.ty→Option Bool)} {y:(List S43.ty)} (F0:F_slices_DeleteFunc_api_Member_api_Member x0 x1=some y):Mut Tryz.prog 156 1 [.row 0,.v (.fn S43 .bool) x1] [(0,.row 43 S43 x0)] (.row 1) [(1,.row 43 S43 y)]:=by
 unfold F_slices_DeleteFunc_api_Member_api_Member at F0
 refine mut_of_run @Tryz.call156 @Tryz.func156 rfl rfl fun b=>?_
 obtain ⟨t1,h1,F0⟩:=obd F0
 refine sq rfl ?_
 refine sE (oE [0,1] [0] 5000 rfl (qE rfl (rE [0,1,5] [0] [(2,⟨[.v (.sl S43),.v (.fn S43 .bool)],vi t1,none⟩)] [] 5000 rfl (qE rfl (qE rfl (oE [0,1,5,12] [0] 5000 rfl (fA [(0,.row 0),(1,.v (.fn S43 .bool) x1),(5,vi t1),(12,vb (t1==(-1)))] [(0,.row 43 S43 x0)] (cc (W_slices_IndexFunc_api_Member_api_Member h1) c0) ?_)))))))
 refine run_if rfl rfl (fun h2=>?_) (fun h2=>?_)
 ·replace F0:=ift h2 F0
  refine sq rfl (rB [(4,.row 0)] [(0,.row 43 S43 x0)] 5000 rfl c0 (run_ren (ρ':=[(4,.row 1)]) (H':=[(1,.row 43 S43 x0)]) 0 1 rfl (by kernel_rfl) rfl (by kernel_rfl) rfl ?_))
  obtain rfl:=inj F0
  exact ret_mut (q:=[.row 1]) [none] [1] rfl rfl (by kernel_rfl) rfl (by kernel_rfl)
 ·replace F0:=ifn h2 F0
  obtain ⟨r1,hl1,F0⟩:=obd F0
  refine sk rfl (sq rfl (sq rfl (rB [(0,.row 0),(1,.v (.fn S43 .bool) x1),(5,vi t1),(6,vi (wrap .i64 (t1+1)))] [(0,.row 43 S43 x0)] 5000 rfl c0 (bk rfl ?_))))
  refine run_cutx 0 rfl (fun r1'=>r1=r1') (fun r1=>[(0,.row 0),(5,vi r1.1)]) (fun r1=>[(0,.row 43 S43 r1.2)]) (fun r1' h3=>?_) (fun J1_0=>?_)
  ·subst h3
   obtain ⟨h4,F0⟩:=ifg F0
   obtain ⟨h5,F0⟩:=ifg F0
   obtain ⟨h6,F0⟩:=ifg F0
   obtain ⟨h7,F0⟩:=ifg F0
   refine sq rfl ?_
   refine sE (oE [0,5] [0] 5000 rfl (qE rfl (oE [4] [0] 5000 rfl (fA [(4,.sub 0 3 0 (toNat r1.1-0))] [(0,.row 43 S43 (take (toNat r1.1) r1.2++(replicate (length r1.2-toNat r1.1) S43.dflt++drop ((toNat r1.1)+(length r1.2-toNat r1.1)) r1.2)))] (cc h4.1 (cc h4.2.1 (cc h4.2.2 (cc h5 (cc h6.1 (cc h6.2.1 (cc h6.2.2 c0))))))) (run_subrow (H':=[(1,.row 43 S43 (take (toNat r1.1-0) (take (toNat r1.1) r1.2++(replicate (length r1.2-toNat r1.1) S43.dflt++drop ((toNat r1.1)+(length r1.2-toNat r1.1)) r1.2))))]) 4 0 (toNat r1.1-0) 1 rfl (by kernel_rfl) rfl h7 rfl rfl (tm (ρ':=[(4,.row 1)]) (H':=[(1,.row 43 S43 (take (toNat r1.1-0) (take (toNat r1.1) r1.2++(replicate (length r1.2-toNat r1.1) S43.dflt++drop ((toNat r1.1)+(length r1.2-toNat r1.1)) r1.2))))]) (by kernel_rfl) (by kernel_rfl) rfl ?_))))))
   obtain rfl:=inj F0
   exact ret_mut (q:=[.row 1]) [none] [1] rfl rfl (by kernel_rfl) rfl (by kernel_rfl)
  refine run_loop rfl (run_loopO hl1 (fun s1=>[(0,.row 0),(1,.v (.fn S43 .bool) x1),(5,vi s1.1),(6,vi s1.2.1)]) (fun s1=>[(0,.row 43 S43 s1.2.2)]) rfl rfl (fun s1 o1 F1 ih1 hr1=>?_))
  unfold F_slices_DeleteFunc_api_Member_api_Member_b1 at F1
  refine run_again (sq rfl (sq rfl (rB [(0,.row 0),(1,.v (.fn S43 .bool) x1),(5,vi s1.1),(6,vi s1.2.1),(19,vb (decide (s1.2.1<((length s1.2.2:Nat):Int))))] [(0,.row 43 S43 s1.2.2)] 5000 rfl c0 ?_)))
  refine run_if rfl rfl (fun h8=>?_) (fun h8=>?_)
  ·replace F1:=ift h8 F1
   obtain ⟨h9,F1⟩:=ifg F1
   obtain ⟨t2,h10,F1⟩:=obd F1
   refine sk rfl (sq rfl (bk rfl (sq rfl ?_)))
   refine sE (oE [0,1,5,6,7] [0,5080] 5000 rfl (qE rfl (rE [0,1,5,6,7,29] [0,5080] [(2,⟨[],vb t2,none⟩)] [] 5081 rfl (fA [(0,.row 0),(1,.v (.fn S43 .bool) x1),(5,vi s1.1),(6,vi s1.2.1),(7,.ptr 5080 [] 0),(29,vb (!t2))] [(0,.row 43 S43 s1.2.2),(5080,.var 43 S43 (getD s1.2.2 (toNat s1.2.1) S43.dflt))] (cc h9 (cc (@rfl Nat (toNat s1.2.1*3)) (cc (oo h9 trivial) (cc h10 c0)))) ?_))))
   refine run_if rfl rfl (fun h11=>?_) (fun h11=>?_)
   ·replace F1:=ift h11 F1
    obtain ⟨h12,F1⟩:=ifg F1
    refine sq rfl ?_
    refine sE (oE [0,1,5,6] [0] 5081 rfl (oE [0,1,5,6] [0] 5000 rfl (eE (oE [0,1,5,6] [0] 5000 rfl (fA [(0,.row 0),(1,.v (.fn S43 .bool) x1),(5,vi (wrap .i64 (s1.1+1))),(6,vi (wrap .i64 (s1.2.1+1)))] [(0,.row 43 S43 (List.set s1.2.2 (toNat s1.1) (getD s1.2.2 (toNat s1.2.1) S43.dflt)))] (cc h12 (cc (@rfl Nat (toNat s1.1*3)) (cc (oo h12 trivial) c0))) ?_)))))
    exact ih1 _ (inj F1).symm
   ·replace F1:=ifn h11 F1
    refine sk rfl (eb (rB [(0,.row 0),(1,.v (.fn S43 .bool) x1),(5,vi s1.1),(6,vi (wrap .i64 (s1.2.1+1)))] [(0,.row 43 S43 s1.2.2)] 5081 rfl c0 ?_))
    exact ih1 _ (inj F1).symm
  ·replace F1:=ifn h8 F1
   refine run_exit rfl rfl (tm (ρ':=[(0,.row 0),(5,vi s1.1)]) (H':=[(0,.row 43 S43 s1.2.2)]) (by kernel_rfl) (by kernel_rfl) rfl ?_)
   exact J1_0 _ (inrI hr1 F1).symm
noncomputable def F_slices_DeleteFunc_api_Right_api_Right_b1 (x1:(S56.ty→Option Bool)) (s1:(Int×Int×(List S56.ty))):Option ((Int×Int×(List S56.ty))⊕(Int×(List S56.ty))) :=
 if (decide (s1.2.1<((length s1.2.2:Nat):Int)))=true then if 0≤s1.2.1∧s1.2.1<((length s1.2.2:Nat):Int) then (x1 (getD s1.2.2 (toNat s1.2.1) S56.dflt)).bind fun t2=>(if (!t2)=true then if 0≤s1.1∧s1.1<((length s1.2.2:Nat):Int) then (some (Sum.inl (wrap .i64 (s1.1+1),wrap .i64 (s1.2.1+1),List.set s1.2.2 (toNat s1.1) (getD s1.2.2 (toNat s1.2.1) S56.dflt)))) else none else some (Sum.inl (s1.1,wrap .i64 (s1.2.1+1),s1.2.2))) else none else some (Sum.inr (s1.1,s1.2.2))
noncomputable def F_slices_DeleteFunc_api_Right_api_Right (x0:(List S56.ty)) (x1:(S56.ty→Option Bool)):Option (List S56.ty) :=
 (F_slices_IndexFunc_api_Right_api_Right x0 x1).bind fun t1=>(if (t1==(-1))=true then some x0 else (loopO (F_slices_DeleteFunc_api_Right_api_Right_b1 x1) (t1,wrap .i64 (t1+1),x0)).bind (fun r1=>if ((0:Int)≤r1.1∧toNat r1.1≤length r1.2∧length r1.2≤length r1.2) then (if (toNat r1.1)+(length r1.2-toNat r1.1)≤length r1.2 then (if ((0:Int)≤r1.1∧0≤toNat r1.1∧toNat r1.1≤length (take (toNat r1.1) r1.2++(replicate (length r1.2-toNat r1.1) S56.dflt++drop ((toNat r1.1)+(length r1.2-toNat r1.1)) r1.2))) then (if (toNat r1.1-0)≤length (take (toNat r1.1) r1.2++(replicate (length r1.2-toNat r1.1) S56.dflt++drop ((toNat r1.1)+(length r1.2-toNat r1.1)) r1.2)) then some (take (toNat r1.1-0) (take (toNat r1.1) r1.2++(replicate (length r1.2-toNat r1.1) S56.dflt++drop ((toNat r1.1)+(length r1.2-toNat r1.1)) r1.2))) else none) else none) else none) else none))
theorem W_slices_DeleteFunc_api_Right_api_Right {x0:(List S56.ty)} {x1:(S56.ty→Option Bool)} {y:(List S56.ty)} (F0:F_slices_DeleteFunc_api_Right_api_Right x0 x1=some y):Mut Tryz.prog 181 1 [.row 0,.v (.fn S56 .bool) x1] [(0,.row 56 S56 x0)] (.row 1) [(1,.row 56 S56 y)]:=by
 unfold F_slices_DeleteFunc_api_Right_api_Right at F0
 refine mut_of_run @Tryz.call181 @Tryz.func181 rfl rfl fun b=>?_
 obtain ⟨t1,h1,F0⟩:=obd F0
 refine sq rfl ?_
 refine sE (oE [0,1] [0] 5000 rfl (qE rfl (rE [0,1,5] [0] [(2,⟨[.v (.sl S56),.v (.fn S56 .bool)],vi t1,none⟩)] [] 5000 rfl (qE rfl (qE rfl (oE [0,1,5,12] [0] 5000 rfl (fA [(0,.row 0),(1,.v (.fn S56 .bool) x1),(5,vi t1),(12,vb (t1==(-1)))] [(0,.row 56 S56 x0)] (cc (W_slices_IndexFunc_api_Right_api_Right h1) c0) ?_)))))))
 refine run_if rfl rfl (fun h2=>?_) (fun h2=>?_)
 ·replace F0:=ift h2 F0
  refine sq rfl (rB [(4,.row 0)] [(0,.row 56 S56 x0)] 5000 rfl c0 (run_ren (ρ':=[(4,.row 1)]) (H':=[(1,.row 56 S56 x0)]) 0 1 rfl (by kernel_rfl) rfl (by kernel_rfl) rfl ?_))
  obtain rfl:=inj F0
  exact ret_mut (q:=[.row 1]) [none] [1] rfl rfl (by kernel_rfl) rfl (by kernel_rfl)
 ·replace F0:=ifn h2 F0
  obtain ⟨r1,hl1,F0⟩:=obd F0
  refine sk rfl (sq rfl (sq rfl (rB [(0,.row 0),(1,.v (.fn S56 .bool) x1),(5,vi t1),(6,vi (wrap .i64 (t1+1)))] [(0,.row 56 S56 x0)] 5000 rfl c0 (bk rfl ?_))))
  refine run_cutx 0 rfl (fun r1'=>r1=r1') (fun r1=>[(0,.row 0),(5,vi r1.1)]) (fun r1=>[(0,.row 56 S56 r1.2)]) (fun r1' h3=>?_) (fun J1_0=>?_)
  ·subst h3
   obtain ⟨h4,F0⟩:=ifg F0
   obtain ⟨h5,F0⟩:=ifg F0
   obtain ⟨h6,F0⟩:=ifg F0
   obtain ⟨h7,F0⟩:=ifg F0
   refine sq rfl ?_
   refine sE (oE [0,5] [0] 5000 rfl (qE rfl (oE [4] [0] 5000 rfl (fA [(4,.sub 0 4 0 (toNat r1.1-0))] [(0,.row 56 S56 (take (toNat r1.1) r1.2++(replicate (length r1.2-toNat r1.1) S56.dflt++drop ((toNat r1.1)+(length r1.2-toNat r1.1)) r1.2)))] (cc h4.1 (cc h4.2.1 (cc h4.2.2 (cc h5 (cc h6.1 (cc h6.2.1 (cc h6.2.2 c0))))))) (run_subrow (H':=[(1,.row 56 S56 (take (toNat r1.1-0) (take (toNat r1.1) r1.2++(replicate (length r1.2-toNat r1.1) S56.dflt++drop ((toNat r1.1)+(length r1.2-toNat r1.1)) r1.2))))]) 4 0 (toNat r1.1-0) 1 rfl (by kernel_rfl) rfl h7 rfl rfl (tm (ρ':=[(4,.row 1)]) (H':=[(1,.row 56 S56 (take (toNat r1.1-0) (take (toNat r1.1) r1.2++(replicate (length r1.2-toNat r1.1) S56.dflt++drop ((toNat r1.1)+(length r1.2-toNat r1.1)) r1.2))))]) (by kernel_rfl) (by kernel_rfl) rfl ?_))))))
   obtain rfl:=inj F0
   exact ret_mut (q:=[.row 1]) [none] [1] rfl rfl (by kernel_rfl) rfl (by kernel_rfl)
  refine run_loop rfl (run_loopO hl1 (fun s1=>[(0,.row 0),(1,.v (.fn S56 .bool) x1),(5,vi s1.1),(6,vi s1.2.1)]) (fun s1=>[(0,.row 56 S56 s1.2.2)]) rfl rfl (fun s1 o1 F1 ih1 hr1=>?_))
  unfold F_slices_DeleteFunc_api_Right_api_Right_b1 at F1
  refine run_again (sq rfl (sq rfl (rB [(0,.row 0),(1,.v (.fn S56 .bool) x1),(5,vi s1.1),(6,vi s1.2.1),(19,vb (decide (s1.2.1<((length s1.2.2:Nat):Int))))] [(0,.row 56 S56 s1.2.2)] 5000 rfl c0 ?_)))
  refine run_if rfl rfl (fun h8=>?_) (fun h8=>?_)
  ·replace F1:=ift h8 F1
   obtain ⟨h9,F1⟩:=ifg F1
   obtain ⟨t2,h10,F1⟩:=obd F1
   refine sk rfl (sq rfl (bk rfl (sq rfl ?_)))
   refine sE (oE [0,1,5,6,7] [0,5080] 5000 rfl (qE rfl (rE [0,1,5,6,7,29] [0,5080] [(2,⟨[],vb t2,none⟩)] [] 5081 rfl (fA [(0,.row 0),(1,.v (.fn S56 .bool) x1),(5,vi s1.1),(6,vi s1.2.1),(7,.ptr 5080 [] 0),(29,vb (!t2))] [(0,.row 56 S56 s1.2.2),(5080,.var 56 S56 (getD s1.2.2 (toNat s1.2.1) S56.dflt))] (cc h9 (cc (@rfl Nat (toNat s1.2.1*4)) (cc (oo h9 trivial) (cc h10 c0)))) ?_))))
   refine run_if rfl rfl (fun h11=>?_) (fun h11=>?_)
   ·replace F1:=ift h11 F1
    obtain ⟨h12,F1⟩:=ifg F1
    refine sq rfl ?_
    refine sE (oE [0,1,5,6] [0] 5081 rfl (oE [0,1,5,6] [0] 5000 rfl (eE (oE [0,1,5,6] [0] 5000 rfl (fA [(0,.row 0),(1,.v (.fn S56 .bool) x1),(5,vi (wrap .i64 (s1.1+1))),(6,vi (wrap .i64 (s1.2.1+1)))] [(0,.row 56 S56 (List.set s1.2.2 (toNat s1.1) (getD s1.2.2 (toNat s1.2.1) S56.dflt)))] (cc h12 (cc (@rfl Nat (toNat s1.1*4)) (cc (oo h12 trivial) c0))) ?_)))))
    exact ih1 _ (inj F1).symm
   ·replace F1:=ifn h11 F1
    refine sk rfl (eb (rB [(0,.row 0),(1,.v (.fn S56 .bool) x1),(5,vi s1.1),(6,vi (wrap .i64 (s1.2.1+1)))] [(0,.row 56 S56 s1.2.2)] 5081 rfl c0 ?_))
    exact ih1 _ (inj F1).symm
  ·replace F1:=ifn h8 F1
   refine run_exit rfl rfl (tm (ρ':=[(0,.row 0),(5,vi s1.1)]) (H':=[(0,.row 56 S56 s1.2.2)]) (by kernel_rfl) (by kernel_rfl) rfl ?_)
   exact J1_0 _ (inrI hr1 F1).symm
noncomputable def F_right_find_1 (x0:S56.ty) (x1:Int):Option Bool :=
 some (x0.1==x1)
theorem W_right_find_1 {x0:S56.ty} {x1:Int} {y:Bool} (F0:F_right_find_1 x0 x1=some y):Pure Tryz.prog 212 [.v S56 x0,.fp (.int .u64) x1] (vb y):=by
 unfold F_right_find_1 at F0
 refine pure_of_run @Tryz.call212 @Tryz.func212 rfl rfl fun w M ho=>?_
 refine sq rfl ?_
 refine sE (oE [1,2] [5000] 5000 rfl (qE rfl (oE [3] [] 5001 rfl (fA [(3,vb (x0.1==x1))] [] c0 ?_))))
 obtain rfl:=inj F0
 exact ret_pure (q:=[vb (x0.1==x1)]) [.bool] rfl rfl (by kernel_rfl)
noncomputable def F_right_find (x0:(List S56.ty)) (x1:Int):Option Int :=
 (F_slices_IndexFunc_api_Right_api_Right x0 (fun x=>F_right_find_1 x x1)).bind fun t1=>(some t1)
theorem W_right_find {x0:(List S56.ty)} {x1:Int} {y:Int} (F0:F_right_find x0 x1=some y):Pure Tryz.prog 183 [.v (.sl S56) x0,vu x1] (vi y):=by
 unfold F_right_find at F0
 refine pure_of_run @Tryz.call183 @Tryz.func183 rfl rfl fun w M ho=>?_
 obtain ⟨t1,h1,F0⟩:=obd F0
 refine sq rfl ?_
 refine sE (oE [0,3] [5000] 5000 rfl (qE rfl (rE [4] [] [(2,⟨[.v (.sl S56),.fn S56 .bool (fun x=>F_right_find_1 x x1)],vi t1,none⟩)] [] 5001 rfl (fA [(4,vi t1)] [] (cc (show Enters Tryz.prog 212 from Tryz.call212) (cc (show ∀x y,(fun x=>F_right_find_1 x x1) x=some y→Pure Tryz.prog 212 (.v S56 x::[.fp (.int .u64) x1]) (.v .bool y) from fun x y h=>W_right_find_1 h) (cc (W_slices_IndexFunc_api_Right_api_Right h1) c0))) ?_))))
 obtain rfl:=inj F0
 exact ret_pure (q:=[vi t1]) [(.int .i64)] rfl rfl (by kernel_rfl)
noncomputable def F_right_Check (x0:(List S56.ty)) (x1:Int) (x2:Int):Option (Int×Int) :=
 (F_right_find x0 x1).bind fun t1=>((show Option Bool from if (decide (t1<0))=true then some true else if 0≤t1∧t1<((length x0:Nat):Int) then (if (getD x0 (toNat t1) S56.dflt).2.2.2=true then some true else (F_right_gives x2).bind fun t2=>(if (!t2)=true then some true else if 0≤t1∧t1<((length x0:Nat):Int) then (some ((bits .andNot .i64 x2 (getD x0 (toNat t1) S56.dflt).2.2.1) != 0)) else none)) else none).bind (fun r1=>if (r1)=true then some (0,160) else if 0≤t1∧t1<((length x0:Nat):Int) then (some ((getD x0 (toNat t1) S56.dflt).2.1,0)) else none))
theorem W_right_Check {x0:(List S56.ty)} {x1:Int} {x2:Int} {y:(Int×Int)} (F0:F_right_Check x0 x1 x2=some y):Pure Tryz.prog 177 [.v (.sl S56) x0,vu x1,vi x2] (.tup [vu y.1,vi y.2]):=by
 unfold F_right_Check at F0
 refine pure_of_run @Tryz.call177 @Tryz.func177 rfl rfl fun w M ho=>?_
 obtain ⟨t1,h1,F0⟩:=obd F0
 obtain ⟨r1,F1,F0⟩:=obd F0
 refine sq rfl ?_
 refine sE (oE [0,1,2] [] 5000 rfl (qE rfl (rE [0,2,8] [] [(2,⟨[.v (.sl S56),.v (.int .u64)],vi t1,none⟩)] [] 5000 rfl (fA [(0,.v (.sl S56) x0),(2,vi x2),(8,vi t1)] [] (cc (W_right_find h1) c0) (sq rfl (sq rfl ?_))))))
 refine run_cut (fun r1'=>r1=r1') (fun r1=>[(0,.v (.sl S56) x0),(8,vi t1),(35,vb r1)]) (fun r1=>[]) (fun r1' h2=>?_) (fun J1_0=>?_)
 ·subst h2
  refine run_if rfl rfl (fun h3=>?_) (fun h3=>?_)
  ·replace F0:=ift h3 F0
   refine sq rfl (rB [(6,vu 0),(7,vi 160)] [] 5000 rfl c0 ?_)
   obtain rfl:=inj F0
   exact ret_pure (q:=[vu 0,vi 160]) [(.int .u64),(.int .i64)] rfl rfl (by kernel_rfl)
  ·replace F0:=ifn h3 F0
   obtain ⟨h4,F0⟩:=ifg F0
   refine sk rfl (sq rfl (rB [(6,vu (getD x0 (toNat t1) S56.dflt).2.1),(7,vi 0)] [] 5000 rfl (cc h4 c0) ?_))
   obtain rfl:=inj F0
   exact ret_pure (q:=[vu (getD x0 (toNat t1) S56.dflt).2.1,vi 0]) [(.int .u64),(.int .i64)] rfl rfl (by kernel_rfl)
 rcases Bool.eq_false_or_eq_true (decide (t1<0)) with h5|h5
 ·replace F1:=ift h5 F1
  refine rA [(0,.v (.sl S56) x0),(8,vi t1),(35,vb true)] [] [] [(2,true)] 5000 rfl (cc h5 c0) ?_
  exact J1_0 _ (inj F1).symm
 ·replace F1:=ifn h5 F1
  obtain ⟨h6,F1⟩:=ifg F1
  rcases Bool.eq_false_or_eq_true (getD x0 (toNat t1) S56.dflt).2.2.2 with h7|h7
  ·replace F1:=ift h7 F1
   refine rA [(0,.v (.sl S56) x0),(8,vi t1),(35,vb true)] [] [] [(2,false),(9,true)] 5000 rfl (cc h5 (cc h6 (cc h7 c0))) ?_
   exact J1_0 _ (inj F1).symm
  ·replace F1:=ifn h7 F1
   obtain ⟨t2,h8,F1⟩:=obd F1
   rcases Bool.eq_false_or_eq_true (!t2) with h9|h9
   ·replace F1:=ift h9 F1
    refine rA [(0,.v (.sl S56) x0),(8,vi t1),(35,vb true)] [] [(11,⟨[.v (.int .i64)],vb t2,none⟩)] [(2,false),(9,false),(14,true)] 5000 rfl (cc h5 (cc h6 (cc h7 (cc (W_right_gives h8) (cc h9 c0))))) ?_
    exact J1_0 _ (inj F1).symm
   ·replace F1:=ifn h9 F1
    obtain ⟨h10,F1⟩:=ifg F1
    refine rA [(0,.v (.sl S56) x0),(8,vi t1),(35,vb ((bits .andNot .i64 x2 (getD x0 (toNat t1) S56.dflt).2.2.1) != 0))] [] [(11,⟨[.v (.int .i64)],vb t2,none⟩)] [(2,false),(9,false),(14,false)] 5000 rfl (cc h5 (cc h6 (cc h7 (cc (W_right_gives h8) (cc h9 (cc h10 c0)))))) ?_
    exact J1_0 _ (inj F1).symm
noncomputable def F_right_Mint (x0:(List S56.ty)) (x1:Int) (x2:Int) (x3:Int):Option ((List S56.ty)×Int) :=
 (show Option Bool from if (x1==0)=true then some true else (F_right_gives x3).bind fun t2=>(if (!t2)=true then some true else (F_right_find x0 x1).bind fun t3=>(some (decide (t3≥0))))).bind (fun r1=>if (r1)=true then some ([],1) else if (decide (((length x0:Nat):Int)≥16))=true then some ([],161) else (F_slices_Clone_api_Right_api_Right x0).bind fun t1=>(if apOk (length t1+1) 32 then (some (t1++[(x1,x2,x3,false)],0)) else none))
theorem W_right_Mint {x0:(List S56.ty)} {x1:Int} {x2:Int} {x3:Int} {y:((List S56.ty)×Int)} (F0:F_right_Mint x0 x1 x2 x3=some y):Pure Tryz.prog 176 [.v (.sl S56) x0,vu x1,vu x2,vi x3] (.tup [.v (.sl S56) y.1,vi y.2]):=by
 unfold F_right_Mint at F0
 refine pure_of_run @Tryz.call176 @Tryz.func176 rfl rfl fun w M ho=>?_
 obtain ⟨r1,F1,F0⟩:=obd F0
 refine sq rfl (rB [(0,.v (.sl S56) x0),(1,vu x1),(2,vu x2),(3,vi x3)] [] 5000 rfl c0 (sq rfl (bk rfl (sq rfl ?_))))
 refine run_cut (fun r1'=>r1=r1') (fun r1=>[(0,.v (.sl S56) x0),(1,vu x1),(2,vu x2),(3,vi x3),(10,vb r1)]) (fun r1=>[]) (fun r1' h1=>?_) (fun J1_0=>?_)
 ·subst h1
  refine run_if rfl rfl (fun h2=>?_) (fun h2=>?_)
  ·replace F0:=ift h2 F0
   refine sq rfl (rB [(8,.v (.nl .any) ()),(9,vi 1)] [] 5000 rfl c0 ?_)
   obtain rfl:=inj F0
   exact ret_pure (q:=[.v (.sl S56) [],vi 1]) [(.sl S56),(.int .i64)] rfl rfl (by kernel_rfl)
  ·replace F0:=ifn h2 F0
   refine sq rfl (rB [(0,.v (.sl S56) x0),(1,vu x1),(2,vu x2),(3,vi x3),(24,vb (decide (((length x0:Nat):Int)≥16)))] [] 5000 rfl c0 ?_)
   refine run_if rfl rfl (fun h3=>?_) (fun h3=>?_)
   ·replace F0:=ift h3 F0
    refine sq rfl (rB [(8,.v (.nl .any) ()),(9,vi 161)] [] 5000 rfl c0 ?_)
    obtain rfl:=inj F0
    exact ret_pure (q:=[.v (.sl S56) [],vi 161]) [(.sl S56),(.int .i64)] rfl rfl (by kernel_rfl)
   ·replace F0:=ifn h3 F0
    obtain ⟨t1,h4,F0⟩:=obd F0
    obtain ⟨h5,F0⟩:=ifg F0
    refine sk rfl (eb (sq rfl (rA [(8,.row 5140),(9,vi 0)] [(5140,.row 56 S56 (t1++[(x1,x2,x3,false)]))] [(1,⟨[.v (.sl S56)],.row 0,some ([],[(0,.row 56 S56 t1)])⟩)] [] 5000 rfl (cc (W_slices_Clone_api_Right_api_Right h4) (cc h5.1 (cc h5.2 c0))) ?_)))
    obtain rfl:=inj F0
    refine run_frz (ρ':=[(8,.v (.sl S56) (t1++[(x1,x2,x3,false)])),(9,vi 0)]) (H':=[]) 5140 rfl rfl rfl (by kernel_rfl) (by kernel_rfl) ?_
    exact ret_pure (q:=[.v (.sl S56) (t1++[(x1,x2,x3,false)]),vi 0]) [(.sl S56),(.int .i64)] rfl rfl (by kernel_rfl)
 rcases Bool.eq_false_or_eq_true (x1==0) with h6|h6
 ·replace F1:=ift h6 F1
  refine rA [(0,.v (.sl S56) x0),(1,vu x1),(2,vu x2),(3,vi x3),(10,vb true)] [] [] [(2,true)] 5000 rfl (cc h6 c0) ?_
  exact J1_0 _ (inj F1).symm
 ·replace F1:=ifn h6 F1
  obtain ⟨t2,h7,F1⟩:=obd F1
  rcases Bool.eq_false_or_eq_true (!t2) with h8|h8
  ·replace F1:=ift h8 F1
   refine rA [(0,.v (.sl S56) x0),(1,vu x1),(2,vu x2),(3,vi x3),(10,vb true)] [] [(4,⟨[.v (.int .i64)],vb t2,none⟩)] [(2,false),(7,true)] 5000 rfl (cc h6 (cc (W_right_gives h7) (cc h8 c0))) ?_
   exact J1_0 _ (inj F1).symm
  ·replace F1:=ifn h8 F1
   obtain ⟨t3,h9,F1⟩:=obd F1
   refine rA [(0,.v (.sl S56) x0),(1,vu x1),(2,vu x2),(3,vi x3),(10,vb (decide (t3≥0)))] [] [(4,⟨[.v (.int .i64)],vb t2,none⟩),(10,⟨[.v (.sl S56),.v (.int .u64)],vi t3,none⟩)] [(2,false),(7,false)] 5000 rfl (cc h6 (cc (W_right_gives h7) (cc h8 (cc (W_right_find h9) c0)))) ?_
   exact J1_0 _ (inj F1).symm
noncomputable def F_right_Revoke (x0:(List S56.ty)) (x1:Int):Option ((List S56.ty)×Int) :=
 (F_right_find x0 x1).bind fun t1=>((show Option Bool from if (decide (t1<0))=true then some true else if 0≤t1∧t1<((length x0:Nat):Int) then (some (getD x0 (toNat t1) S56.dflt).2.2.2) else none).bind (fun r1=>if (r1)=true then some ([],160) else (F_slices_Clone_api_Right_api_Right x0).bind fun t2=>(if 0≤t1∧t1<((length t2:Nat):Int) then (some (List.set t2 (toNat t1) ((getD t2 (toNat t1) S56.dflt).1,(getD t2 (toNat t1) S56.dflt).2.1,(getD t2 (toNat t1) S56.dflt).2.2.1,true),0)) else none)))
theorem W_right_Revoke {x0:(List S56.ty)} {x1:Int} {y:((List S56.ty)×Int)} (F0:F_right_Revoke x0 x1=some y):Pure Tryz.prog 118 [.v (.sl S56) x0,vu x1] (.tup [.v (.sl S56) y.1,vi y.2]):=by
 unfold F_right_Revoke at F0
 refine pure_of_run @Tryz.call118 @Tryz.func118 rfl rfl fun w M ho=>?_
 obtain ⟨t1,h1,F0⟩:=obd F0
 obtain ⟨r1,F1,F0⟩:=obd F0
 refine sq rfl ?_
 refine sE (oE [0,1] [] 5000 rfl (qE rfl (rE [0,6] [] [(2,⟨[.v (.sl S56),.v (.int .u64)],vi t1,none⟩)] [] 5000 rfl (fA [(0,.v (.sl S56) x0),(6,vi t1)] [] (cc (W_right_find h1) c0) (sq rfl (sq rfl ?_))))))
 refine run_cut (fun r1'=>r1=r1') (fun r1=>[(0,.v (.sl S56) x0),(6,vi t1),(19,vb r1)]) (fun r1=>[]) (fun r1' h2=>?_) (fun J1_0=>?_)
 ·subst h2
  refine run_if rfl rfl (fun h3=>?_) (fun h3=>?_)
  ·replace F0:=ift h3 F0
   refine sq rfl (rB [(4,.v (.nl .any) ()),(5,vi 160)] [] 5000 rfl c0 ?_)
   obtain rfl:=inj F0
   exact ret_pure (q:=[.v (.sl S56) [],vi 160]) [(.sl S56),(.int .i64)] rfl rfl (by kernel_rfl)
  ·replace F0:=ifn h3 F0
   obtain ⟨t2,h4,F0⟩:=obd F0
   obtain ⟨h5,F0⟩:=ifg F0
   refine sk rfl (sq rfl ?_)
   refine sE (rE [6,7] [5020] [(1,⟨[.v (.sl S56)],.row 0,some ([],[(0,.row 56 S56 t2)])⟩)] [] 5000 rfl (qE rfl (oE [7] [5020] 5021 rfl (qE rfl (oE [4,5] [5020] 5021 rfl (fA [(4,.row 5020),(5,vi 0)] [(5020,.row 56 S56 (List.set t2 (toNat t1) ((getD t2 (toNat t1) S56.dflt).1,(getD t2 (toNat t1) S56.dflt).2.1,(getD t2 (toNat t1) S56.dflt).2.2.1,true)))] (cc (W_slices_Clone_api_Right_api_Right h4) (cc h5 (cc (@rfl Nat ((toNat t1*4)+3)) (cc (oo h5 trivial) c0)))) ?_))))))
   obtain rfl:=inj F0
   refine run_frz (ρ':=[(4,.v (.sl S56) (List.set t2 (toNat t1) ((getD t2 (toNat t1) S56.dflt).1,(getD t2 (toNat t1) S56.dflt).2.1,(getD t2 (toNat t1) S56.dflt).2.2.1,true))),(5,vi 0)]) (H':=[]) 5020 rfl rfl rfl (by kernel_rfl) (by kernel_rfl) ?_
   exact ret_pure (q:=[.v (.sl S56) (List.set t2 (toNat t1) ((getD t2 (toNat t1) S56.dflt).1,(getD t2 (toNat t1) S56.dflt).2.1,(getD t2 (toNat t1) S56.dflt).2.2.1,true)),vi 0]) [(.sl S56),(.int .i64)] rfl rfl (by kernel_rfl)
 rcases Bool.eq_false_or_eq_true (decide (t1<0)) with h6|h6
 ·replace F1:=ift h6 F1
  refine rA [(0,.v (.sl S56) x0),(6,vi t1),(19,vb true)] [] [] [(2,true)] 5000 rfl (cc h6 c0) ?_
  exact J1_0 _ (inj F1).symm
 ·replace F1:=ifn h6 F1
  obtain ⟨h7,F1⟩:=ifg F1
  refine rA [(0,.v (.sl S56) x0),(6,vi t1),(19,vb (getD x0 (toNat t1) S56.dflt).2.2.2)] [] [] [(2,false)] 5000 rfl (cc h6 (cc h7 c0)) ?_
  exact J1_0 _ (inj F1).symm
noncomputable def F_right_Drop_1 (x0:S56.ty) (x1:Int):Option Bool :=
 some (x0.2.1==x1)
theorem W_right_Drop_1 {x0:S56.ty} {x1:Int} {y:Bool} (F0:F_right_Drop_1 x0 x1=some y):Pure Tryz.prog 182 [.v S56 x0,.fp (.int .u64) x1] (vb y):=by
 unfold F_right_Drop_1 at F0
 refine pure_of_run @Tryz.call182 @Tryz.func182 rfl rfl fun w M ho=>?_
 refine sq rfl ?_
 refine sE (oE [1,2] [5000] 5000 rfl (qE rfl (oE [3] [] 5001 rfl (fA [(3,vb (x0.2.1==x1))] [] c0 ?_))))
 obtain rfl:=inj F0
 exact ret_pure (q:=[vb (x0.2.1==x1)]) [.bool] rfl rfl (by kernel_rfl)
noncomputable def F_right_Drop (x0:(List S56.ty)) (x1:Int):Option (List S56.ty) :=
 (F_slices_Clone_api_Right_api_Right x0).bind fun t1=>((F_slices_DeleteFunc_api_Right_api_Right t1 (fun x=>F_right_Drop_1 x x1)).bind fun t2=>(some t2))
theorem W_right_Drop {x0:(List S56.ty)} {x1:Int} {y:(List S56.ty)} (F0:F_right_Drop x0 x1=some y):Pure Tryz.prog 112 [.v (.sl S56) x0,vu x1] (.v (.sl S56) y):=by
 unfold F_right_Drop at F0
 refine pure_of_run @Tryz.call112 @Tryz.func112 rfl rfl fun w M ho=>?_
 obtain ⟨t1,h1,F0⟩:=obd F0
 obtain ⟨t2,h2,F0⟩:=obd F0
 refine sq rfl ?_
 refine sE (oE [0,3] [5000] 5000 rfl (qE rfl (rE [4] [5062] [(1,⟨[.v (.sl S56)],.row 0,some ([],[(0,.row 56 S56 t1)])⟩),(3,⟨[.v .unit,.fn S56 .bool (fun x=>F_right_Drop_1 x x1)],.row 1,some ([5021],[(1,.row 56 S56 t2)])⟩)] [] 5001 rfl (fA [(4,.row 5062)] [(5062,.row 56 S56 t2)] (cc (W_slices_Clone_api_Right_api_Right h1) (cc (show Enters Tryz.prog 182 from Tryz.call182) (cc (show ∀x y,(fun x=>F_right_Drop_1 x x1) x=some y→Pure Tryz.prog 182 (.v S56 x::[.fp (.int .u64) x1]) (.v .bool y) from fun x y h=>W_right_Drop_1 h) (cc (W_slices_DeleteFunc_api_Right_api_Right h2) c0)))) ?_))))
 obtain rfl:=inj F0
 refine run_frz (ρ':=[(4,.v (.sl S56) t2)]) (H':=[]) 5062 rfl rfl rfl (by kernel_rfl) (by kernel_rfl) ?_
 exact ret_pure (q:=[.v (.sl S56) t2]) [(.sl S56)] rfl rfl (by kernel_rfl)
abbrev S26:Sh:=(.st (.prod (.int .u64) (.sl S120)))
abbrev Z26:Sh:=(.st (.prod (.int .u64) (.nl S120)))
noncomputable def F_roster_copied (x0:S26.ty):Option S26.ty :=
 (F_slices_Clone_api_Session_api_Session x0.2).bind fun t1=>(some (x0.1,t1))
theorem W_roster_copied {x0:S26.ty} {y:S26.ty} (F0:F_roster_copied x0=some y):Mut Tryz.prog 174 0 [.v S26 x0] [] (.v (.st (.prod (.int .u64) .ref)) (y.1,3560)) [(3560,.row 120 S120 y.2)]:=by
 unfold F_roster_copied at F0
 refine mut_of_run @Tryz.call174 @Tryz.func174 rfl rfl fun b=>?_
 obtain ⟨t1,h1,F0⟩:=obd F0
 refine sq rfl ?_
 refine sE (oE [1,2] [5000,5020] 5000 rfl (qE rfl (rE [1,2] [5000,5020,5061] [(2,⟨[.v (.sl S120)],.row 0,some ([],[(0,.row 120 S120 t1)])⟩)] [] 5021 rfl (qE rfl (oE [2] [5020,5061] 5062 rfl (nE 5061 3560 (fA [(2,.ptr 5020 [] 0)] [(3560,.row 120 S120 t1),(5020,.var 26 (.st (.prod (.int .u64) .ref)) (x0.1,3560))] (cc (W_slices_Clone_api_Session_api_Session h1) c0) ?_)))))))
 obtain rfl:=inj F0
 exact ret_mut (q:=[.v (.st (.prod (.int .u64) .ref)) (x0.1,3560)]) [none] [3560] rfl rfl (by kernel_rfl) rfl (by kernel_rfl)
noncomputable def F_roster_find_1 (x0:S120.ty) (x1:Int):Option Bool :=
 some (x0.1==x1)
theorem W_roster_find_1 {x0:S120.ty} {x1:Int} {y:Bool} (F0:F_roster_find_1 x0 x1=some y):Pure Tryz.prog 211 [.v S120 x0,.fp (.int .u64) x1] (vb y):=by
 unfold F_roster_find_1 at F0
 refine pure_of_run @Tryz.call211 @Tryz.func211 rfl rfl fun w M ho=>?_
 refine sq rfl ?_
 refine sE (oE [1,2] [5000] 5000 rfl (qE rfl (oE [3] [] 5001 rfl (fA [(3,vb (x0.1==x1))] [] c0 ?_))))
 obtain rfl:=inj F0
 exact ret_pure (q:=[vb (x0.1==x1)]) [.bool] rfl rfl (by kernel_rfl)
noncomputable def F_roster_find (x0:S26.ty) (x1:Int):Option Int :=
 (F_slices_IndexFunc_api_Session_api_Session x0.2 (fun x=>F_roster_find_1 x x1)).bind fun t1=>(some t1)
theorem W_roster_find {x0:S26.ty} {x1:Int} {y:Int} (F0:F_roster_find x0 x1=some y):Pure Tryz.prog 178 [.v S26 x0,vu x1] (vi y):=by
 unfold F_roster_find at F0
 refine pure_of_run @Tryz.call178 @Tryz.func178 rfl rfl fun w M ho=>?_
 obtain ⟨t1,h1,F0⟩:=obd F0
 refine sq rfl ?_
 refine sE (oE [2,3] [5000,5020] 5000 rfl (qE rfl (rE [4] [] [(3,⟨[.v (.sl S120),.fn S120 .bool (fun x=>F_roster_find_1 x x1)],vi t1,none⟩)] [] 5021 rfl (fA [(4,vi t1)] [] (cc (show Enters Tryz.prog 211 from Tryz.call211) (cc (show ∀x y,(fun x=>F_roster_find_1 x x1) x=some y→Pure Tryz.prog 211 (.v S120 x::[.fp (.int .u64) x1]) (.v .bool y) from fun x y h=>W_roster_find_1 h) (cc (W_slices_IndexFunc_api_Session_api_Session h1) c0))) ?_))))
 obtain rfl:=inj F0
 exact ret_pure (q:=[vi t1]) [(.int .i64)] rfl rfl (by kernel_rfl)
noncomputable def F_roster_Open (x0:S26.ty):Option (S26.ty×Int×Int) :=
 (show Option Bool from if (decide (((length x0.2:Nat):Int)≥4))=true then some true else some (decide (x0.1≥65535))).bind (fun r1=>if (r1)=true then some ((0,[]),0,161) else (F_roster_copied x0).bind fun t1=>(if apOk (length t1.2+1) 16 then (some ((wrap .u64 (t1.1+1),t1.2++[(wrap .u64 (t1.1+1),0)]),wrap .u64 (t1.1+1),0)) else none))
theorem W_roster_Open {x0:S26.ty} {y:(S26.ty×Int×Int)} (F0:F_roster_Open x0=some y):Pure Tryz.prog 106 [.v S26 x0] (.tup [.v S26 y.1,vu y.2.1,vi y.2.2]):=by
 unfold F_roster_Open at F0
 refine pure_of_run @Tryz.call106 @Tryz.func106 rfl rfl fun w M ho=>?_
 obtain ⟨r1,F1,F0⟩:=obd F0
 refine sq rfl (rB [(1,.ptr 5000 [] 0),(2,.ptr 5020 [] 0)] [(5000,.var 26 S26 x0),(5020,.var 26 Z26 (0,()))] 5000 rfl c0 (sq rfl (sq rfl ?_)))
 refine run_cut (fun r1'=>r1=r1') (fun r1=>[(1,.ptr 5000 [] 0),(2,.ptr 5020 [] 0),(14,vb r1)]) (fun r1=>[(5000,.var 26 S26 x0),(5020,.var 26 Z26 (0,()))]) (fun r1' h1=>?_) (fun J1_0=>?_)
 ·subst h1
  refine run_if rfl rfl (fun h2=>?_) (fun h2=>?_)
  ·replace F0:=ift h2 F0
   refine sq rfl (rB [(2,.ptr 5020 [] 0),(3,vu 0),(4,vi 161)] [(5020,.var 26 Z26 (0,()))] 5021 rfl c0 ?_)
   obtain rfl:=inj F0
   exact ret_pure (q:=[.v S26 (0,[]),vu 0,vi 161]) [S26,(.int .u64),(.int .i64)] rfl rfl (by kernel_rfl)
  ·replace F0:=ifn h2 F0
   obtain ⟨t1,h3,F0⟩:=obd F0
   obtain ⟨h4,F0⟩:=ifg F0
   refine sk rfl (sq rfl ?_)
   refine sE (rE [2,5] [5020,5061,8601] [(1,⟨[.v S26],.v (.st (.prod (.int .u64) .ref)) (t1.1,3560),some ([],[(3560,.row 120 S120 t1.2)])⟩)] [] 5021 rfl (qE rfl (oE [2,5] [5020,5061,8601] 8602 rfl (qE rfl (oE [2,5] [5020,5061,8722] 8602 rfl (qE rfl (gE [2,3,4] [5020,8722] [] [] 8723 rfl rfl (fA [(2,.ptr 5020 [] 0),(3,vu (wrap .u64 (t1.1+1))),(4,vi 0)] [(5020,.var 26 (.st (.prod (.int .u64) .ref)) (wrap .u64 (t1.1+1),8722)),(8722,.row 120 S120 (t1.2++[(wrap .u64 (t1.1+1),0)]))] (cc (W_roster_copied h3) (cc h4.1 (cc h4.2 (cc (rr (vu (wrap .u64 (t1.1+1)))) c0)))) ?_))))))))
   obtain rfl:=inj F0
   refine run_frzC (ρ':=[(2,.ptr 5020 [] 0),(3,vu (wrap .u64 (t1.1+1))),(4,vi 0)]) (H':=[(5020,.var 26 S26 (wrap .u64 (t1.1+1),t1.2++[(wrap .u64 (t1.1+1),0)]))]) 8722 rfl rfl rfl (by kernel_rfl) (by kernel_rfl) ?_
   exact ret_pure (q:=[.v S26 (wrap .u64 (t1.1+1),t1.2++[(wrap .u64 (t1.1+1),0)]),vu (wrap .u64 (t1.1+1)),vi 0]) [S26,(.int .u64),(.int .i64)] rfl rfl (by kernel_rfl)
 rcases Bool.eq_false_or_eq_true (decide (((length x0.2:Nat):Int)≥4)) with h5|h5
 ·replace F1:=ift h5 F1
  refine rA [(1,.ptr 5000 [] 0),(2,.ptr 5020 [] 0),(14,vb true)] [(5000,.var 26 S26 x0),(5020,.var 26 Z26 (0,()))] [] [(4,true)] 5021 rfl (cc h5 c0) ?_
  exact J1_0 _ (inj F1).symm
 ·replace F1:=ifn h5 F1
  refine rA [(1,.ptr 5000 [] 0),(2,.ptr 5020 [] 0),(14,vb (decide (x0.1≥65535)))] [(5000,.var 26 S26 x0),(5020,.var 26 Z26 (0,()))] [] [(4,false)] 5021 rfl (cc h5 c0) ?_
  exact J1_0 _ (inj F1).symm
noncomputable def F_roster_Close (x0:S26.ty) (x1:Int):Option (S26.ty×Int) :=
 (F_roster_find x0 x1).bind fun t1=>(if (decide (t1<0))=true then some ((0,[]),162) else (F_roster_copied x0).bind fun t2=>((F_slices_Delete_api_Session_api_Session t2.2 t1 (wrap .i64 (t1+1))).bind fun t3=>(some ((t2.1,t3),0))))
theorem W_roster_Close {x0:S26.ty} {x1:Int} {y:(S26.ty×Int)} (F0:F_roster_Close x0 x1=some y):Pure Tryz.prog 109 [.v S26 x0,vu x1] (.tup [.v S26 y.1,vi y.2]):=by
 unfold F_roster_Close at F0
 refine pure_of_run @Tryz.call109 @Tryz.func109 rfl rfl fun w M ho=>?_
 obtain ⟨t1,h1,F0⟩:=obd F0
 refine sq rfl ?_
 refine sE (oE [1,2,4] [5000,5020] 5000 rfl (qE rfl (rE [2,4,6] [5000,5020] [(2,⟨[.v S26,.v (.int .u64)],vi t1,none⟩)] [] 5021 rfl (qE rfl (qE rfl (oE [2,4,6,12] [5000,5020] 5021 rfl (fA [(2,.ptr 5000 [] 0),(4,.ptr 5020 [] 0),(6,vi t1),(12,vb (decide (t1<0)))] [(5000,.var 26 S26 x0),(5020,.var 26 Z26 (0,()))] (cc (W_roster_find h1) c0) ?_)))))))
 refine run_if rfl rfl (fun h2=>?_) (fun h2=>?_)
 ·replace F0:=ift h2 F0
  refine sq rfl (rB [(4,.ptr 5020 [] 0),(5,vi 162)] [(5020,.var 26 Z26 (0,()))] 5021 rfl c0 ?_)
  obtain rfl:=inj F0
  exact ret_pure (q:=[.v S26 (0,[]),vi 162]) [S26,(.int .i64)] rfl rfl (by kernel_rfl)
 ·replace F0:=ifn h2 F0
  obtain ⟨t2,h3,F0⟩:=obd F0
  obtain ⟨t3,h4,F0⟩:=obd F0
  refine sk rfl (sq rfl ?_)
  refine sE (rE [4,6,7] [5020,5061,8601] [(1,⟨[.v S26],.v (.st (.prod (.int .u64) .ref)) (t2.1,3560),some ([],[(3560,.row 120 S120 t2.2)])⟩)] [] 5021 rfl (qE rfl (rE [4,7] [5020,5061,8703] [(5,⟨[.v .unit,.v (.int .i64),.v (.int .i64)],.row 1,some ([8601],[(1,.row 120 S120 t3)])⟩)] [] 8602 rfl (qE rfl (oE [4,5] [5020,8703] 8704 rfl (fA [(4,.ptr 5020 [] 0),(5,vi 0)] [(5020,.var 26 (.st (.prod (.int .u64) .ref)) (t2.1,8703)),(8703,.row 120 S120 t3)] (cc (W_roster_copied h3) (cc (W_slices_Delete_api_Session_api_Session h4) c0)) ?_))))))
  obtain rfl:=inj F0
  refine run_frzC (ρ':=[(4,.ptr 5020 [] 0),(5,vi 0)]) (H':=[(5020,.var 26 S26 (t2.1,t3))]) 8703 rfl rfl rfl (by kernel_rfl) (by kernel_rfl) ?_
  exact ret_pure (q:=[.v S26 (t2.1,t3),vi 0]) [S26,(.int .i64)] rfl rfl (by kernel_rfl)
noncomputable def F_roster_Next (x0:S26.ty) (x1:Int):Option (S26.ty×Int×Int) :=
 (F_roster_find x0 x1).bind fun t1=>((show Option Bool from if (decide (t1<0))=true then some true else if 0≤t1∧t1<((length x0.2:Nat):Int) then (some (decide ((getD x0.2 (toNat t1) S120.dflt).2≥4294967295))) else none).bind (fun r1=>if (r1)=true then some ((0,[]),0,162) else (F_roster_copied x0).bind fun t2=>(if 0≤t1∧t1<((length t2.2:Nat):Int) then (if 0≤t1∧t1<((length t2.2:Nat):Int) then (if 0≤t1∧t1<((length (List.set t2.2 (toNat t1) ((getD t2.2 (toNat t1) S120.dflt).1,wrap .u64 ((getD t2.2 (toNat t1) S120.dflt).2+1))):Nat):Int) then (some ((t2.1,List.set t2.2 (toNat t1) ((getD t2.2 (toNat t1) S120.dflt).1,wrap .u64 ((getD t2.2 (toNat t1) S120.dflt).2+1))),(getD (List.set t2.2 (toNat t1) ((getD t2.2 (toNat t1) S120.dflt).1,wrap .u64 ((getD t2.2 (toNat t1) S120.dflt).2+1))) (toNat t1) S120.dflt).2,0)) else none) else none) else none)))
theorem W_roster_Next {x0:S26.ty} {x1:Int} {y:(S26.ty×Int×Int)} (F0:F_roster_Next x0 x1=some y):Pure Tryz.prog 125 [.v S26 x0,vu x1] (.tup [.v S26 y.1,vu y.2.1,vi y.2.2]):=by
 unfold F_roster_Next at F0
 refine pure_of_run @Tryz.call125 @Tryz.func125 rfl rfl fun w M ho=>?_
 obtain ⟨t1,h1,F0⟩:=obd F0
 obtain ⟨r1,F1,F0⟩:=obd F0
 refine sq rfl ?_
 refine sE (oE [1,2,4] [5000,5020] 5000 rfl (qE rfl (rE [2,4,7] [5000,5020] [(2,⟨[.v S26,.v (.int .u64)],vi t1,none⟩)] [] 5021 rfl (fA [(2,.ptr 5000 [] 0),(4,.ptr 5020 [] 0),(7,vi t1)] [(5000,.var 26 S26 x0),(5020,.var 26 Z26 (0,()))] (cc (W_roster_find h1) c0) (sq rfl (sq rfl ?_))))))
 refine run_cut (fun r1'=>r1=r1') (fun r1=>[(2,.ptr 5000 [] 0),(4,.ptr 5020 [] 0),(7,vi t1),(22,vb r1)]) (fun r1=>[(5000,.var 26 S26 x0),(5020,.var 26 Z26 (0,()))]) (fun r1' h2=>?_) (fun J1_0=>?_)
 ·subst h2
  refine run_if rfl rfl (fun h3=>?_) (fun h3=>?_)
  ·replace F0:=ift h3 F0
   refine sq rfl (rB [(4,.ptr 5020 [] 0),(5,vu 0),(6,vi 162)] [(5020,.var 26 Z26 (0,()))] 5021 rfl c0 ?_)
   obtain rfl:=inj F0
   exact ret_pure (q:=[.v S26 (0,[]),vu 0,vi 162]) [S26,(.int .u64),(.int .i64)] rfl rfl (by kernel_rfl)
  ·replace F0:=ifn h3 F0
   obtain ⟨t2,h4,F0⟩:=obd F0
   obtain ⟨h5,F0⟩:=ifg F0
   obtain ⟨h6,F0⟩:=ifg F0
   obtain ⟨h7,F0⟩:=ifg F0
   refine sk rfl (sq rfl ?_)
   refine sE (rE [4,7,8] [5020,5061,8601] [(1,⟨[.v S26],.v (.st (.prod (.int .u64) .ref)) (t2.1,3560),some ([],[(3560,.row 120 S120 t2.2)])⟩)] [] 5021 rfl (qE rfl (oE [4,7,8] [5020,5061,8601] 8602 rfl (qE rfl (gE [4,5,6] [5020,8601] [] [] 8602 rfl rfl (fA [(4,.ptr 5020 [] 0),(5,vu (getD (List.set t2.2 (toNat t1) ((getD t2.2 (toNat t1) S120.dflt).1,wrap .u64 ((getD t2.2 (toNat t1) S120.dflt).2+1))) (toNat t1) S120.dflt).2),(6,vi 0)] [(5020,.var 26 (.st (.prod (.int .u64) .ref)) (t2.1,8601)),(8601,.row 120 S120 (List.set t2.2 (toNat t1) ((getD t2.2 (toNat t1) S120.dflt).1,wrap .u64 ((getD t2.2 (toNat t1) S120.dflt).2+1))))] (cc (W_roster_copied h4) (cc h5 (cc (@rfl Nat ((toNat t1*2)+1)) (cc (oo h5 trivial) (cc h6 (cc (@rfl Nat ((toNat t1*2)+1)) (cc (oo h6 trivial) (cc h7 (cc (@rfl Nat ((toNat t1*2)+1)) (cc (oo h7 trivial) (cc (rr (.row 8601)) (cc (rr (.ptr 8601 [.i (toNat t1)] (toNat t1*2))) (cc h7 (cc (rr (vu (getD (List.set t2.2 (toNat t1) ((getD t2.2 (toNat t1) S120.dflt).1,wrap .u64 ((getD t2.2 (toNat t1) S120.dflt).2+1))) (toNat t1) S120.dflt).2)) (cc (@rfl Nat ((toNat t1*2)+1)) (cc (oo h7 trivial) c0)))))))))))))))) ?_))))))
   obtain rfl:=inj F0
   refine run_frzC (ρ':=[(4,.ptr 5020 [] 0),(5,vu (getD (List.set t2.2 (toNat t1) ((getD t2.2 (toNat t1) S120.dflt).1,wrap .u64 ((getD t2.2 (toNat t1) S120.dflt).2+1))) (toNat t1) S120.dflt).2),(6,vi 0)]) (H':=[(5020,.var 26 S26 (t2.1,List.set t2.2 (toNat t1) ((getD t2.2 (toNat t1) S120.dflt).1,wrap .u64 ((getD t2.2 (toNat t1) S120.dflt).2+1))))]) 8601 rfl rfl rfl (by kernel_rfl) (by kernel_rfl) ?_
   exact ret_pure (q:=[.v S26 (t2.1,List.set t2.2 (toNat t1) ((getD t2.2 (toNat t1) S120.dflt).1,wrap .u64 ((getD t2.2 (toNat t1) S120.dflt).2+1))),vu (getD (List.set t2.2 (toNat t1) ((getD t2.2 (toNat t1) S120.dflt).1,wrap .u64 ((getD t2.2 (toNat t1) S120.dflt).2+1))) (toNat t1) S120.dflt).2,vi 0]) [S26,(.int .u64),(.int .i64)] rfl rfl (by kernel_rfl)
 rcases Bool.eq_false_or_eq_true (decide (t1<0)) with h8|h8
 ·replace F1:=ift h8 F1
  refine rA [(2,.ptr 5000 [] 0),(4,.ptr 5020 [] 0),(7,vi t1),(22,vb true)] [(5000,.var 26 S26 x0),(5020,.var 26 Z26 (0,()))] [] [(2,true)] 5021 rfl (cc h8 c0) ?_
  exact J1_0 _ (inj F1).symm
 ·replace F1:=ifn h8 F1
  obtain ⟨h9,F1⟩:=ifg F1
  refine rA [(2,.ptr 5000 [] 0),(4,.ptr 5020 [] 0),(7,vi t1),(22,vb (decide ((getD x0.2 (toNat t1) S120.dflt).2≥4294967295)))] [(5000,.var 26 S26 x0),(5020,.var 26 Z26 (0,()))] [] [(2,false)] 5021 rfl (cc h8 (cc h9 c0)) ?_
  exact J1_0 _ (inj F1).symm
noncomputable def F_group_compare (x0:S43.ty) (x1:S43.ty):Option Int :=
 (F_cmp_Compare_int x0.1 x1.1).bind fun t1=>((F_cmp_Compare_int x0.2.1 x1.2.1).bind fun t2=>((F_cmp_Compare_uint64 x0.2.2 x1.2.2).bind fun t3=>((F_cmp_Or_int [t1,t2,t3]).bind fun t4=>(some t4))))
theorem W_group_compare {x0:S43.ty} {x1:S43.ty} {y:Int} (F0:F_group_compare x0 x1=some y):Pure Tryz.prog 184 [.v S43 x0,.v S43 x1] (vi y):=by
 unfold F_group_compare at F0
 refine pure_of_run @Tryz.call184 @Tryz.func184 rfl rfl fun w M ho=>?_
 obtain ⟨t1,h1,F0⟩:=obd F0
 obtain ⟨t2,h2,F0⟩:=obd F0
 obtain ⟨t3,h3,F0⟩:=obd F0
 obtain ⟨t4,h4,F0⟩:=obd F0
 refine sq rfl ?_
 refine sE (oE [2,3] [5000,5020] 5000 rfl (qE rfl (gE [4] [] [(4,⟨[.v (.int .i64),.v (.int .i64)],vi t1,none⟩),(9,⟨[.v (.int .i64),.v (.int .i64)],vi t2,none⟩),(14,⟨[.v (.int .u64),.v (.int .u64)],vi t3,none⟩),(15,⟨[],.v (.sl (.int .i64)) [t1,t2,t3],none⟩),(16,⟨[.v (.sl (.int .i64))],vi t4,none⟩)] [] 5021 rfl rfl (fA [(4,vi t4)] [] (cc (W_cmp_Compare_int h1) (cc (W_cmp_Compare_int h2) (cc (W_cmp_Compare_uint64 h3) (cc (W_cmp_Or_int h4) c0)))) ?_))))
 obtain rfl:=inj F0
 exact ret_pure (q:=[vi t4]) [(.int .i64)] rfl rfl (by kernel_rfl)
noncomputable def F_group_Less (x0:S43.ty) (x1:S43.ty):Option Bool :=
 (F_group_compare x0 x1).bind fun t1=>(some (decide (t1<0)))
theorem W_group_Less {x0:S43.ty} {x1:S43.ty} {y:Bool} (F0:F_group_Less x0 x1=some y):Pure Tryz.prog 122 [.v S43 x0,.v S43 x1] (vb y):=by
 unfold F_group_Less at F0
 refine pure_of_run @Tryz.call122 @Tryz.func122 rfl rfl fun w M ho=>?_
 obtain ⟨t1,h1,F0⟩:=obd F0
 refine sq rfl ?_
 refine sE (oE [2,3] [5000,5020] 5000 rfl (qE rfl (rE [4] [] [(2,⟨[.v S43,.v S43],vi t1,none⟩)] [] 5021 rfl (fA [(4,vb (decide (t1<0)))] [] (cc (W_group_compare h1) c0) ?_))))
 obtain rfl:=inj F0
 exact ret_pure (q:=[vb (decide (t1<0))]) [.bool] rfl rfl (by kernel_rfl)
noncomputable def F_audit_Add (x0:(List S53.ty)) (x1:Int) (x2:Str) (x3:Int):Option (List S53.ty) :=
 (show Option Int from if (decide (((length x0:Nat):Int)>0))=true then if 0≤(wrap .i64 (((length x0:Nat):Int)-1))∧(wrap .i64 (((length x0:Nat):Int)-1))<((length x0:Nat):Int) then (some (mx x1 (getD x0 (toNat (wrap .i64 (((length x0:Nat):Int)-1))) S53.dflt).2.1)) else none else some x1).bind (fun r1=>(F_slices_Clone_api_Record_api_Record x0).bind fun t1=>(if apOk (length t1+1) 40 then (some (t1++[(wrap .u64 ((wrap .u64 ((length x0:Nat):Int))+1),r1,x2,x3)])) else none))
theorem W_audit_Add {x0:(List S53.ty)} {x1:Int} {x2:Str} {x3:Int} {y:(List S53.ty)} (F0:F_audit_Add x0 x1 x2 x3=some y):Pure Tryz.prog 32 [.v (.sl S53) x0,.v (.int .u32) x1,vs x2,vi x3] (.v (.sl S53) y):=by
 unfold F_audit_Add at F0
 refine pure_of_run @Tryz.call32 @Tryz.func32 rfl rfl fun w M ho=>?_
 obtain ⟨r1,F1,F0⟩:=obd F0
 refine sq rfl ?_
 refine sE (oE [0,1,2,3] [] 5000 rfl (qE rfl (qE rfl (oE [0,1,2,3,9] [] 5000 rfl (qE rfl (oE [0,1,2,3,9,13] [] 5000 rfl (fA [(0,.v (.sl S53) x0),(1,.v (.int .u32) x1),(2,vs x2),(3,vi x3),(9,vi ((length x0:Nat):Int)),(13,vb (decide (((length x0:Nat):Int)>0)))] [] c0 ?_)))))))
 refine run_cut (fun r1'=>r1=r1') (fun r1=>[(0,.v (.sl S53) x0),(1,.v (.int .u32) r1),(2,vs x2),(3,vi x3)]) (fun r1=>[]) (fun r1' h1=>?_) (fun J1_0=>?_)
 ·subst h1
  obtain ⟨t1,h2,F0⟩:=obd F0
  obtain ⟨h3,F0⟩:=ifg F0
  refine sq rfl (rA [(8,.row 5220)] [(5220,.row 53 S53 (t1++[(wrap .u64 ((wrap .u64 ((length x0:Nat):Int))+1),r1,x2,x3)]))] [(1,⟨[.v (.sl S53)],.row 0,some ([],[(0,.row 53 S53 t1)])⟩)] [] 5000 rfl (cc (W_slices_Clone_api_Record_api_Record h2) (cc h3.1 (cc h3.2 c0))) ?_)
  obtain rfl:=inj F0
  refine run_frz (ρ':=[(8,.v (.sl S53) (t1++[(wrap .u64 ((wrap .u64 ((length x0:Nat):Int))+1),r1,x2,x3)]))]) (H':=[]) 5220 rfl rfl rfl (by kernel_rfl) (by kernel_rfl) ?_
  exact ret_pure (q:=[.v (.sl S53) (t1++[(wrap .u64 ((wrap .u64 ((length x0:Nat):Int))+1),r1,x2,x3)])]) [(.sl S53)] rfl rfl (by kernel_rfl)
 refine run_if rfl rfl (fun h4=>?_) (fun h4=>?_)
 ·replace F1:=ift h4 F1
  obtain ⟨h5,F1⟩:=ifg F1
  refine rB [(0,.v (.sl S53) x0),(1,.v (.int .u32) (mx x1 (getD x0 (toNat (wrap .i64 (((length x0:Nat):Int)-1))) S53.dflt).2.1)),(2,vs x2),(3,vi x3)] [] 5000 rfl (cc h5 c0) ?_
  exact J1_0 _ (inj F1).symm
 ·replace F1:=ifn h4 F1
  refine sk rfl (tm (ρ':=[(0,.v (.sl S53) x0),(1,.v (.int .u32) x1),(2,vs x2),(3,vi x3)]) (H':=[]) (by kernel_rfl) (by kernel_rfl) rfl ?_)
  exact J1_0 _ (inj F1).symm
abbrev S171:Sh:=(.st (.prod .str .bool))
noncomputable def F_parse_parser_word (x0:S171.ty):Option (Value⊕(Str×S171.ty)) :=
 (F_parse_need (!x0.2)).bind (Sum.elim (fun e91=>some (Sum.inl e91)) (fun t1=>(F_strings_Cut x0.1 ([32]:Str)).bind fun t2=>(some (Sum.inr (t2.1,t2.2.1,!t2.2.2)))))
theorem W_parse_parser_word {x0:S171.ty} {y:(Value⊕(Str×S171.ty))} (F0:F_parse_parser_word x0=some y):MutS Tryz.prog 168 1 [.ptr 0 [] 0] [(0,.var 171 S171 x0)] (Sum.map id (fun y=>(vs y.1,[(0,.var 171 S171 y.2)])) y):=by
 unfold F_parse_parser_word at F0
 refine mutS_of_run @Tryz.call168 @Tryz.func168 rfl rfl fun b=>?_
 obtain ⟨u1,h1,F0⟩:=obd F0
 refine sq rfl (rB [(0,.ptr 0 [] 0)] [(0,.var 171 S171 x0)] 5000 rfl c0 (sq rfl ?_))
 rcases u1 with e91|t1
 ·replace F0:=sumL F0
  obtain rfl:=inj F0
  exact rgP 5 [] [] 5000 [.v .bool] [] e91 rfl (by kernel_rfl) (cc (show Pan Tryz.prog 173 0 [vb (!x0.2)] [] e91 from W_parse_need h1) c0) pan_ok
 ·replace F0:=sumR F0
  obtain ⟨t2,h2,F0⟩:=obd F0
  refine sE (rE [0] [0] [(5,⟨[.v .bool],.tup [],some ([],[])⟩)] [] 5000 rfl (qE rfl (rE [0,3,4,5] [0] [(4,⟨[.v .str,.v .str],.tup [vs t2.1,vs t2.2.1,vb t2.2.2],none⟩)] [] 5000 rfl (qE rfl (oE [3] [0] 5000 rfl (qE rfl (oE [2] [0] 5000 rfl (fA [(2,vs t2.1)] [(0,.var 171 S171 (t2.2.1,!t2.2.2))] (cc (show Mut Tryz.prog 173 0 [vb (!x0.2)] [] (.tup []) [] from W_parse_need h1) (cc (W_strings_Cut h2) c0)) ?_))))))))
  obtain rfl:=inj F0
  exact ret_mut (q:=[vs t2.1]) [some .str] [0] rfl rfl (by kernel_rfl) rfl (by kernel_rfl)
noncomputable def F_parse_parser_number (x0:S171.ty) (x1:Int) (x2:Int):Option (Value⊕(Int×S171.ty)) :=
 (F_parse_parser_word x0).bind (Sum.elim (fun e91=>some (Sum.inl e91)) (fun t1=>(F_strconv_ParseUint t1.1 10 64).bind fun t2=>((show Option ((Value⊕(Int×S171.ty))⊕Unit) from if t2.2=true then (F_strconv_FormatUint t2.1 10).bind fun t3=>(if (t3==t1.1)=true then if (decide (t2.1≥x1))=true then (F_parse_need (decide (t2.1≤x2))).bind (Sum.elim (fun e94=>some (Sum.inl (Sum.inl e94))) (fun t4=>some (Sum.inr ()))) else (F_parse_need false).bind (Sum.elim (fun e95=>some (Sum.inl (Sum.inl e95))) (fun t5=>some (Sum.inr ()))) else (F_parse_need false).bind (Sum.elim (fun e96=>some (Sum.inl (Sum.inl e96))) (fun t6=>some (Sum.inr ())))) else (F_parse_need false).bind (Sum.elim (fun e97=>some (Sum.inl (Sum.inl e97))) (fun t7=>some (Sum.inr ())))).bind (Sum.elim some (fun j11=>some (Sum.inr (t2.1,t1.2)))))))
theorem W_parse_parser_number {x0:S171.ty} {x1:Int} {x2:Int} {y:(Value⊕(Int×S171.ty))} (F0:F_parse_parser_number x0 x1 x2=some y):MutS Tryz.prog 205 1 [.ptr 0 [] 0,vu x1,vu x2] [(0,.var 171 S171 x0)] (Sum.map id (fun y=>(vu y.1,[(0,.var 171 S171 y.2)])) y):=by
 unfold F_parse_parser_number at F0
 refine mutS_of_run @Tryz.call205 @Tryz.func205 rfl rfl fun b=>?_
 obtain ⟨u1,h1,F0⟩:=obd F0
 refine sq rfl (rB [(0,.ptr 0 [] 0),(1,vu x1),(2,vu x2)] [(0,.var 171 S171 x0)] 5000 rfl c0 (sq rfl ?_))
 rcases u1 with e91|t1
 ·replace F0:=sumL F0
  obtain rfl:=inj F0
  exact rgP 1 [] [] 5000 [.v .unit] [0] e91 rfl (by kernel_rfl) (cc (show Pan Tryz.prog 168 1 [.ptr 0 [] 0] [(0,.var 171 S171 x0)] e91 from W_parse_parser_word h1) c0) pan_ok
 ·replace F0:=sumR F0
  obtain ⟨t2,h2,F0⟩:=obd F0
  obtain ⟨r1,F1,F0⟩:=obd F0
  refine sE (rE [1,2,7] [0] [(1,⟨[.v .unit],vs t1.1,some ([0],[(0,.var 171 S171 t1.2)])⟩)] [] 5000 rfl (qE rfl (rE [1,2,7,8,9] [0] [(1,⟨[.v .str,.v (.int .i64),.v (.int .i64)],.tup [vu t2.1,.ifc t2.2],none⟩)] [] 5000 rfl (fA [(1,vu x1),(2,vu x2),(7,vs t1.1),(8,vu t2.1),(9,.ifc t2.2)] [(0,.var 171 S171 t1.2)] (cc (show Mut Tryz.prog 168 1 [.ptr 0 [] 0] [(0,.var 171 S171 x0)] (vs t1.1) [(0,.var 171 S171 t1.2)] from W_parse_parser_word h1) (cc (W_strconv_ParseUint h2) c0)) (sq rfl ?_)))))
  refine run_cut (fun j11=>r1=Sum.inr j11) (fun j11=>[(8,vu t2.1)]) (fun j11=>[(0,.var 171 S171 t1.2)]) (fun j11 h3=>?_) (fun J1_1=>?_)
  ·subst h3
   replace F0:=sumR F0
   refine sq rfl (rB [(6,vu t2.1)] [(0,.var 171 S171 t1.2)] 5000 rfl c0 ?_)
   obtain rfl:=inj F0
   exact ret_mut (q:=[vu t2.1]) [some (.int .u64)] [0] rfl rfl (by kernel_rfl) rfl (by kernel_rfl)
  rcases Bool.eq_false_or_eq_true t2.2 with h4|h4
  ·replace F1:=ift h4 F1
   obtain ⟨t3,h5,F1⟩:=obd F1
   rcases Bool.eq_false_or_eq_true (t3==t1.1) with h6|h6
   ·replace F1:=ift h6 F1
    rcases Bool.eq_false_or_eq_true (decide (t2.1≥x1)) with h7|h7
    ·replace F1:=ift h7 F1
     obtain ⟨u4,h8,F1⟩:=obd F1
     rcases u4 with e94|t4
     ·replace F1:=sumL F1
      have e1:=inj F1
      subst e1
      replace F0:=sumL F0
      obtain rfl:=inj F0
      exact rgP 18 [(4,⟨[.v (.int .u64),.v (.int .i64)],vs t3,none⟩)] [(2,true),(8,true),(13,true)] 5000 [.v .bool] [] e94 rfl (by kernel_rfl) (cc h4 (cc (show Pure Tryz.prog 163 [vu t2.1,vi 10] (vs t3) from W_strconv_FormatUint h5) (cc h6 (cc h7 (cc (show Pan Tryz.prog 173 0 [vb (decide (t2.1≤x2))] [] e94 from W_parse_need h8) c0))))) pan_ok
     ·replace F1:=sumR F1
      refine rA [(8,vu t2.1)] [(0,.var 171 S171 t1.2)] [(4,⟨[.v (.int .u64),.v (.int .i64)],vs t3,none⟩),(18,⟨[.v .bool],.tup [],some ([],[])⟩)] [(2,true),(8,true),(13,true)] 5000 rfl (cc h4 (cc (W_strconv_FormatUint h5) (cc h6 (cc h7 (cc (show Mut Tryz.prog 173 0 [vb (decide (t2.1≤x2))] [] (.tup []) [] from W_parse_need h8) c0))))) ?_
      exact J1_1 _ (inj F1).symm
    ·replace F1:=ifn h7 F1
     obtain ⟨u5,h9,F1⟩:=obd F1
     rcases u5 with e95|t5
     ·replace F1:=sumL F1
      have e1:=inj F1
      subst e1
      replace F0:=sumL F0
      obtain rfl:=inj F0
      exact rgP 18 [(4,⟨[.v (.int .u64),.v (.int .i64)],vs t3,none⟩)] [(2,true),(8,true),(13,false)] 5000 [.v .bool] [] e95 rfl (by kernel_rfl) (cc h4 (cc (show Pure Tryz.prog 163 [vu t2.1,vi 10] (vs t3) from W_strconv_FormatUint h5) (cc h6 (cc h7 (cc (show Pan Tryz.prog 173 0 [vb false] [] e95 from W_parse_need h9) c0))))) pan_ok
     ·replace F1:=sumR F1
      refine rA [(8,vu t2.1)] [(0,.var 171 S171 t1.2)] [(4,⟨[.v (.int .u64),.v (.int .i64)],vs t3,none⟩),(18,⟨[.v .bool],.tup [],some ([],[])⟩)] [(2,true),(8,true),(13,false)] 5000 rfl (cc h4 (cc (W_strconv_FormatUint h5) (cc h6 (cc h7 (cc (show Mut Tryz.prog 173 0 [vb false] [] (.tup []) [] from W_parse_need h9) c0))))) ?_
      exact J1_1 _ (inj F1).symm
   ·replace F1:=ifn h6 F1
    obtain ⟨u6,h10,F1⟩:=obd F1
    rcases u6 with e96|t6
    ·replace F1:=sumL F1
     have e1:=inj F1
     subst e1
     replace F0:=sumL F0
     obtain rfl:=inj F0
     exact rgP 18 [(4,⟨[.v (.int .u64),.v (.int .i64)],vs t3,none⟩)] [(2,true),(8,false)] 5000 [.v .bool] [] e96 rfl (by kernel_rfl) (cc h4 (cc (show Pure Tryz.prog 163 [vu t2.1,vi 10] (vs t3) from W_strconv_FormatUint h5) (cc h6 (cc (show Pan Tryz.prog 173 0 [vb false] [] e96 from W_parse_need h10) c0)))) pan_ok
    ·replace F1:=sumR F1
     refine rA [(8,vu t2.1)] [(0,.var 171 S171 t1.2)] [(4,⟨[.v (.int .u64),.v (.int .i64)],vs t3,none⟩),(18,⟨[.v .bool],.tup [],some ([],[])⟩)] [(2,true),(8,false)] 5000 rfl (cc h4 (cc (W_strconv_FormatUint h5) (cc h6 (cc (show Mut Tryz.prog 173 0 [vb false] [] (.tup []) [] from W_parse_need h10) c0)))) ?_
     exact J1_1 _ (inj F1).symm
  ·replace F1:=ifn h4 F1
   obtain ⟨u7,h11,F1⟩:=obd F1
   rcases u7 with e97|t7
   ·replace F1:=sumL F1
    have e1:=inj F1
    subst e1
    replace F0:=sumL F0
    obtain rfl:=inj F0
    exact rgP 18 [] [(2,false)] 5000 [.v .bool] [] e97 rfl (by kernel_rfl) (cc h4 (cc (show Pan Tryz.prog 173 0 [vb false] [] e97 from W_parse_need h11) c0)) pan_ok
   ·replace F1:=sumR F1
    refine rA [(8,vu t2.1)] [(0,.var 171 S171 t1.2)] [(18,⟨[.v .bool],.tup [],some ([],[])⟩)] [(2,false)] 5000 rfl (cc h4 (cc (show Mut Tryz.prog 173 0 [vb false] [] (.tup []) [] from W_parse_need h11) c0)) ?_
    exact J1_1 _ (inj F1).symm
noncomputable def F_parse_parser_small (x0:S171.ty) (x1:Int) (x2:Int):Option (Value⊕(Int×S171.ty)) :=
 (F_parse_parser_number x0 (wrap .u64 x1) (wrap .u64 x2)).bind (Sum.elim (fun e91=>some (Sum.inl e91)) (fun t1=>some (Sum.inr (wrap .i64 t1.1,t1.2))))
theorem W_parse_parser_small {x0:S171.ty} {x1:Int} {x2:Int} {y:(Value⊕(Int×S171.ty))} (F0:F_parse_parser_small x0 x1 x2=some y):MutS Tryz.prog 170 1 [.ptr 0 [] 0,vi x1,vi x2] [(0,.var 171 S171 x0)] (Sum.map id (fun y=>(vi y.1,[(0,.var 171 S171 y.2)])) y):=by
 unfold F_parse_parser_small at F0
 refine mutS_of_run @Tryz.call170 @Tryz.func170 rfl rfl fun b=>?_
 obtain ⟨u1,h1,F0⟩:=obd F0
 refine sq rfl (rB [(0,.ptr 0 [] 0),(1,vi x1),(2,vi x2)] [(0,.var 171 S171 x0)] 5000 rfl c0 (sq rfl ?_))
 rcases u1 with e91|t1
 ·replace F0:=sumL F0
  obtain rfl:=inj F0
  exact rgP 5 [] [] 5000 [.v .unit,.v (.int .u64),.v (.int .u64)] [0] e91 rfl (by kernel_rfl) (cc (show Pan Tryz.prog 205 1 [.ptr 0 [] 0,vu (wrap .u64 x1),vu (wrap .u64 x2)] [(0,.var 171 S171 x0)] e91 from W_parse_parser_number h1) c0) pan_ok
 ·replace F0:=sumR F0
  refine rA [(6,vi (wrap .i64 t1.1))] [(0,.var 171 S171 t1.2)] [(5,⟨[.v .unit,.v (.int .u64),.v (.int .u64)],vu t1.1,some ([0],[(0,.var 171 S171 t1.2)])⟩)] [] 5000 rfl (cc (show Mut Tryz.prog 205 1 [.ptr 0 [] 0,vu (wrap .u64 x1),vu (wrap .u64 x2)] [(0,.var 171 S171 x0)] (vu t1.1) [(0,.var 171 S171 t1.2)] from W_parse_parser_number h1) c0) ?_
  obtain rfl:=inj F0
  exact ret_mut (q:=[vi (wrap .i64 t1.1)]) [some (.int .i64)] [0] rfl rfl (by kernel_rfl) rfl (by kernel_rfl)
noncomputable def F_parse_parser_handle (x0:S171.ty):Option (Value⊕(Int×S171.ty)) :=
 (F_parse_parser_number x0 0 18446744073709551615).bind (Sum.elim (fun e91=>some (Sum.inl e91)) (fun t1=>some (Sum.inr (t1.1,t1.2))))
theorem W_parse_parser_handle {x0:S171.ty} {y:(Value⊕(Int×S171.ty))} (F0:F_parse_parser_handle x0=some y):MutS Tryz.prog 169 1 [.ptr 0 [] 0] [(0,.var 171 S171 x0)] (Sum.map id (fun y=>(vu y.1,[(0,.var 171 S171 y.2)])) y):=by
 unfold F_parse_parser_handle at F0
 refine mutS_of_run @Tryz.call169 @Tryz.func169 rfl rfl fun b=>?_
 obtain ⟨u1,h1,F0⟩:=obd F0
 refine sq rfl (rB [(0,.ptr 0 [] 0)] [(0,.var 171 S171 x0)] 5000 rfl c0 (sq rfl ?_))
 rcases u1 with e91|t1
 ·replace F0:=sumL F0
  obtain rfl:=inj F0
  exact rgP 1 [] [] 5000 [.v .unit,.v (.int .u64),.v (.int .u64)] [0] e91 rfl (by kernel_rfl) (cc (show Pan Tryz.prog 205 1 [.ptr 0 [] 0,vu 0,vu 18446744073709551615] [(0,.var 171 S171 x0)] e91 from W_parse_parser_number h1) c0) pan_ok
 ·replace F0:=sumR F0
  refine rA [(2,vu t1.1)] [(0,.var 171 S171 t1.2)] [(1,⟨[.v .unit,.v (.int .u64),.v (.int .u64)],vu t1.1,some ([0],[(0,.var 171 S171 t1.2)])⟩)] [] 5000 rfl (cc (show Mut Tryz.prog 205 1 [.ptr 0 [] 0,vu 0,vu 18446744073709551615] [(0,.var 171 S171 x0)] (vu t1.1) [(0,.var 171 S171 t1.2)] from W_parse_parser_number h1) c0) ?_
  obtain rfl:=inj F0
  exact ret_mut (q:=[vu t1.1]) [some (.int .u64)] [0] rfl rfl (by kernel_rfl) rfl (by kernel_rfl)
noncomputable def F_parse_services:Option (List Str) :=
 some (List.set (List.set (List.set (List.set (replicate 4 []) 0 ([102,105,102,111]:Str)) 1 ([99,97,117,115,97,108]:Str)) 2 ([97,103,114,101,101,100]:Str)) 3 ([115,97,102,101]:Str))
theorem W_parse_services {y:(List Str)} (F0:F_parse_services=some y):Pure Tryz.prog 206 [] (.v (.arr 4 .str) y):=by
 unfold F_parse_services at F0
 refine pure_of_run @Tryz.call206 @Tryz.func206 rfl rfl fun w M ho=>?_
 refine sq rfl ?_
 refine sE (oE [0] [5000] 5000 rfl (qE rfl (oE [0] [5000] 5001 rfl (fA [(0,.ptr 5000 [] 0)] [(5000,.var 248 (.arr 4 .str) (List.set (List.set (List.set (List.set (replicate 4 []) 0 ([102,105,102,111]:Str)) 1 ([99,97,117,115,97,108]:Str)) 2 ([97,103,114,101,101,100]:Str)) 3 ([115,97,102,101]:Str)))] c0 ?_))))
 obtain rfl:=inj F0
 exact ret_pure (q:=[.v (.arr 4 .str) (List.set (List.set (List.set (List.set (replicate 4 []) 0 ([102,105,102,111]:Str)) 1 ([99,97,117,115,97,108]:Str)) 2 ([97,103,114,101,101,100]:Str)) 3 ([115,97,102,101]:Str))]) [(.arr 4 .str)] rfl rfl (by kernel_rfl)
noncomputable def F_parse_parser_service (x0:S171.ty):Option (Value⊕(Int×S171.ty)) :=
 (F_parse_services ).bind fun t1=>((F_parse_parser_word x0).bind (Sum.elim (fun e92=>some (Sum.inl e92)) (fun t2=>(F_slices_Index_string_string t1 t2.1).bind fun t3=>((F_parse_need (decide (t3≥0))).bind (Sum.elim (fun e94=>some (Sum.inl e94)) (fun t4=>some (Sum.inr (t3,t2.2))))))))
theorem W_parse_parser_service {x0:S171.ty} {y:(Value⊕(Int×S171.ty))} (F0:F_parse_parser_service x0=some y):MutS Tryz.prog 171 1 [.ptr 0 [] 0] [(0,.var 171 S171 x0)] (Sum.map id (fun y=>(vi y.1,[(0,.var 171 S171 y.2)])) y):=by
 unfold F_parse_parser_service at F0
 refine mutS_of_run @Tryz.call171 @Tryz.func171 rfl rfl fun b=>?_
 obtain ⟨t1,h1,F0⟩:=obd F0
 obtain ⟨u2,h2,F0⟩:=obd F0
 refine sq rfl ?_
 refine sE (oE [0] [0] 5000 rfl (qE rfl (rE [0,3] [0,5020] [(0,⟨[],.v (.arr 4 .str) t1,none⟩)] [] 5000 rfl (fA [(0,.ptr 0 [] 0),(3,.ptr 5020 [] 0)] [(0,.var 171 S171 x0),(5020,.var 248 (.arr 4 .str) t1)] (cc (W_parse_services h1) c0) (sq rfl ?_)))))
 rcases u2 with e92|t2
 ·replace F0:=sumL F0
  obtain rfl:=inj F0
  exact rgPG 2 [] [] 5021 [.v .unit] [0] e92 rfl rfl (by kernel_rfl) (cc (show Pan Tryz.prog 168 1 [.ptr 0 [] 0] [(0,.var 171 S171 x0)] e92 from W_parse_parser_word h2) c0) pan_ok
 ·replace F0:=sumR F0
  obtain ⟨t3,h3,F0⟩:=obd F0
  obtain ⟨u4,h4,F0⟩:=obd F0
  refine rC [(4,vi t3)] [(0,.var 171 S171 t2.2)] [(2,⟨[.v .unit],vs t2.1,some ([0],[(0,.var 171 S171 t2.2)])⟩),(3,⟨[.v (.sl .str),.v .str],vi t3,none⟩)] [] 5021 rfl (cc (show Mut Tryz.prog 168 1 [.ptr 0 [] 0] [(0,.var 171 S171 x0)] (vs t2.1) [(0,.var 171 S171 t2.2)] from W_parse_parser_word h2) (cc (W_slices_Index_string_string h3) c0)) (sq rfl ?_)
  rcases u4 with e94|t4
  ·replace F0:=sumL F0
   obtain rfl:=inj F0
   exact rgP 2 [] [] 5000 [.v .bool] [] e94 rfl (by kernel_rfl) (cc (show Pan Tryz.prog 173 0 [vb (decide (t3≥0))] [] e94 from W_parse_need h4) c0) pan_ok
  ·replace F0:=sumR F0
   refine sE (rE [4] [0] [(2,⟨[.v .bool],.tup [],some ([],[])⟩)] [] 5000 rfl (qE rfl (oE [2] [0] 5000 rfl (fA [(2,vi t3)] [(0,.var 171 S171 t2.2)] (cc (show Mut Tryz.prog 173 0 [vb (decide (t3≥0))] [] (.tup []) [] from W_parse_need h4) c0) ?_))))
   obtain rfl:=inj F0
   exact ret_mut (q:=[vi t3]) [some (.int .i64)] [0] rfl rfl (by kernel_rfl) rfl (by kernel_rfl)
noncomputable def F_parse_parser_text (x0:S171.ty):Option (Value⊕(Str×S171.ty)) :=
 (F_parse_need (!x0.2)).bind (Sum.elim (fun e91=>some (Sum.inl e91)) (fun t1=>(F_strings_CutPrefix x0.1 ([61]:Str)).bind fun t2=>((show Option ((Value⊕(Str×S171.ty))⊕Unit) from if t2.2=true then (F_parse_need (decide (((length t2.1:Nat):Int)≤16))).bind (Sum.elim (fun e93=>some (Sum.inl (Sum.inl e93))) (fun t3=>some (Sum.inr ()))) else (F_parse_need false).bind (Sum.elim (fun e94=>some (Sum.inl (Sum.inl e94))) (fun t4=>some (Sum.inr ())))).bind (Sum.elim some (fun j11=>some (Sum.inr (t2.1,x0.1,true)))))))
theorem W_parse_parser_text {x0:S171.ty} {y:(Value⊕(Str×S171.ty))} (F0:F_parse_parser_text x0=some y):MutS Tryz.prog 172 1 [.ptr 0 [] 0] [(0,.var 171 S171 x0)] (Sum.map id (fun y=>(vs y.1,[(0,.var 171 S171 y.2)])) y):=by
 unfold F_parse_parser_text at F0
 refine mutS_of_run @Tryz.call172 @Tryz.func172 rfl rfl fun b=>?_
 obtain ⟨u1,h1,F0⟩:=obd F0
 refine sq rfl (rB [(0,.ptr 0 [] 0)] [(0,.var 171 S171 x0)] 5000 rfl c0 (sq rfl ?_))
 rcases u1 with e91|t1
 ·replace F0:=sumL F0
  obtain rfl:=inj F0
  exact rgP 5 [] [] 5000 [.v .bool] [] e91 rfl (by kernel_rfl) (cc (show Pan Tryz.prog 173 0 [vb (!x0.2)] [] e91 from W_parse_need h1) c0) pan_ok
 ·replace F0:=sumR F0
  obtain ⟨t2,h2,F0⟩:=obd F0
  obtain ⟨r1,F1,F0⟩:=obd F0
  refine sE (rE [0] [0] [(5,⟨[.v .bool],.tup [],some ([],[])⟩)] [] 5000 rfl (qE rfl (rE [0,3,4] [0] [(4,⟨[.v .str,.v .str],.tup [vs t2.1,vb t2.2],none⟩)] [] 5000 rfl (fA [(0,.ptr 0 [] 0),(3,vs t2.1),(4,vb t2.2)] [(0,.var 171 S171 x0)] (cc (show Mut Tryz.prog 173 0 [vb (!x0.2)] [] (.tup []) [] from W_parse_need h1) (cc (W_strings_CutPrefix h2) c0)) (sq rfl ?_)))))
  refine run_cut (fun j11=>r1=Sum.inr j11) (fun j11=>[(0,.ptr 0 [] 0),(3,vs t2.1)]) (fun j11=>[(0,.var 171 S171 x0)]) (fun j11 h3=>?_) (fun J1_1=>?_)
  ·subst h3
   replace F0:=sumR F0
   refine sq rfl ?_
   refine sE (oE [3] [0] 5000 rfl (qE rfl (oE [2] [0] 5000 rfl (fA [(2,vs t2.1)] [(0,.var 171 S171 (x0.1,true))] c0 ?_))))
   obtain rfl:=inj F0
   exact ret_mut (q:=[vs t2.1]) [some .str] [0] rfl rfl (by kernel_rfl) rfl (by kernel_rfl)
  rcases Bool.eq_false_or_eq_true t2.2 with h4|h4
  ·replace F1:=ift h4 F1
   obtain ⟨u3,h5,F1⟩:=obd F1
   rcases u3 with e93|t3
   ·replace F1:=sumL F1
    have e1:=inj F1
    subst e1
    replace F0:=sumL F0
    obtain rfl:=inj F0
    exact rgP 6 [] [(1,true)] 5000 [.v .bool] [] e93 rfl (by kernel_rfl) (cc h4 (cc (show Pan Tryz.prog 173 0 [vb (decide (((length t2.1:Nat):Int)≤16))] [] e93 from W_parse_need h5) c0)) pan_ok
   ·replace F1:=sumR F1
    refine rA [(0,.ptr 0 [] 0),(3,vs t2.1)] [(0,.var 171 S171 x0)] [(6,⟨[.v .bool],.tup [],some ([],[])⟩)] [(1,true)] 5000 rfl (cc h4 (cc (show Mut Tryz.prog 173 0 [vb (decide (((length t2.1:Nat):Int)≤16))] [] (.tup []) [] from W_parse_need h5) c0)) ?_
    exact J1_1 _ (inj F1).symm
  ·replace F1:=ifn h4 F1
   obtain ⟨u4,h6,F1⟩:=obd F1
   rcases u4 with e94|t4
   ·replace F1:=sumL F1
    have e1:=inj F1
    subst e1
    replace F0:=sumL F0
    obtain rfl:=inj F0
    exact rgP 6 [] [(1,false)] 5000 [.v .bool] [] e94 rfl (by kernel_rfl) (cc h4 (cc (show Pan Tryz.prog 173 0 [vb false] [] e94 from W_parse_need h6) c0)) pan_ok
   ·replace F1:=sumR F1
    refine rA [(0,.ptr 0 [] 0),(3,vs t2.1)] [(0,.var 171 S171 x0)] [(6,⟨[.v .bool],.tup [],some ([],[])⟩)] [(1,false)] 5000 rfl (cc h4 (cc (show Mut Tryz.prog 173 0 [vb false] [] (.tup []) [] from W_parse_need h6) c0)) ?_
    exact J1_1 _ (inj F1).symm
abbrev S86:Sh:=(.st (.prod (.int .i64) (.prod (.int .u64) (.prod (.int .u64) (.prod (.int .i64) (.prod (.int .i64) (.prod (.int .i64) .str)))))))
noncomputable def F_parse_parser_call (x0:S171.ty):Option (Value⊕(S86.ty×S171.ty)) :=
 (F_parse_parser_word x0).bind (Sum.elim (fun e91=>some (Sum.inl e91)) (fun t1=>if (t1.1==([111,112,101,110]:Str))=true then (F_parse_need t1.2.2).bind (Sum.elim (fun e92=>some (Sum.inl e92)) (fun t2=>some (Sum.inr ((0,0,0,0,0,0,[]),t1.2)))) else if (t1.1==([99,108,111,115,101]:Str))=true then (F_parse_parser_handle t1.2).bind (Sum.elim (fun e93=>some (Sum.inl e93)) (fun t3=>(F_parse_need t3.2.2).bind (Sum.elim (fun e94=>some (Sum.inl e94)) (fun t4=>some (Sum.inr ((1,t3.1,0,0,0,0,[]),t3.2)))))) else if (t1.1==([109,105,110,116]:Str))=true then (F_parse_parser_handle t1.2).bind (Sum.elim (fun e95=>some (Sum.inl e95)) (fun t5=>(F_parse_parser_small t5.2 1 7).bind (Sum.elim (fun e96=>some (Sum.inl e96)) (fun t6=>(F_parse_need t6.2.2).bind (Sum.elim (fun e97=>some (Sum.inl e97)) (fun t7=>some (Sum.inr ((2,t5.1,0,t6.1,0,0,[]),t6.2)))))))) else if (t1.1==([114,101,118,111,107,101]:Str))=true then (F_parse_parser_handle t1.2).bind (Sum.elim (fun e98=>some (Sum.inl e98)) (fun t8=>(F_parse_parser_handle t8.2).bind (Sum.elim (fun e99=>some (Sum.inl e99)) (fun t9=>(F_parse_need t9.2.2).bind (Sum.elim (fun e910=>some (Sum.inl e910)) (fun t10=>some (Sum.inr ((3,t8.1,t9.1,0,0,0,[]),t9.2)))))))) else if (t1.1==([106,111,105,110]:Str))=true then (F_parse_parser_handle t1.2).bind (Sum.elim (fun e911=>some (Sum.inl e911)) (fun t11=>(F_parse_parser_small t11.2 0 7).bind (Sum.elim (fun e912=>some (Sum.inl e912)) (fun t12=>(F_parse_need t12.2.2).bind (Sum.elim (fun e913=>some (Sum.inl e913)) (fun t13=>some (Sum.inr ((4,t11.1,0,0,t12.1,0,[]),t12.2)))))))) else if (t1.1==([108,101,97,118,101]:Str))=true then (F_parse_parser_handle t1.2).bind (Sum.elim (fun e914=>some (Sum.inl e914)) (fun t14=>(F_parse_parser_small t14.2 0 7).bind (Sum.elim (fun e915=>some (Sum.inl e915)) (fun t15=>(F_parse_need t15.2.2).bind (Sum.elim (fun e916=>some (Sum.inl e916)) (fun t16=>some (Sum.inr ((5,t14.1,0,0,t15.1,0,[]),t15.2)))))))) else if (t1.1==([115,101,110,100]:Str))=true then (F_parse_parser_handle t1.2).bind (Sum.elim (fun e917=>some (Sum.inl e917)) (fun t17=>(F_parse_parser_small t17.2 0 7).bind (Sum.elim (fun e918=>some (Sum.inl e918)) (fun t18=>(F_parse_parser_service t18.2).bind (Sum.elim (fun e919=>some (Sum.inl e919)) (fun t19=>(F_parse_parser_text t19.2).bind (Sum.elim (fun e920=>some (Sum.inl e920)) (fun t20=>(F_parse_need t20.2.2).bind (Sum.elim (fun e921=>some (Sum.inl e921)) (fun t21=>some (Sum.inr ((6,t17.1,0,0,t18.1,t19.1,t20.1),t20.2)))))))))))) else some (Sum.inl (.iface 167 (.agg #[]):Value))))
theorem W_parse_parser_call {x0:S171.ty} {y:(Value⊕(S86.ty×S171.ty))} (F0:F_parse_parser_call x0=some y):MutS Tryz.prog 105 1 [.ptr 0 [] 0] [(0,.var 171 S171 x0)] (Sum.map id (fun y=>(.v S86 y.1,[(0,.var 171 S171 y.2)])) y):=by
 unfold F_parse_parser_call at F0
 refine mutS_of_run @Tryz.call105 @Tryz.func105 rfl rfl fun b=>?_
 obtain ⟨u1,h1,F0⟩:=obd F0
 refine sq rfl ?_
 refine sE (oE [0,2] [0,5000] 5000 rfl (qE rfl (oE [0,2,3] [0,5000,5001] 5001 rfl (fA [(0,.ptr 0 [] 0),(2,.ptr 5000 [] 0),(3,.ptr 5001 [] 0)] [(0,.var 171 S171 x0),(5000,.var 86 S86 (0,0,0,0,0,0,[])),(5001,.var 86 S86 (0,0,0,0,0,0,[]))] c0 (sq rfl (sq rfl ?_))))))
 rcases u1 with e91|t1
 ·replace F0:=sumL F0
  obtain rfl:=inj F0
  exact rgP 1 [] [] 5002 [.v .unit] [0] e91 rfl (by kernel_rfl) (cc (show Pan Tryz.prog 168 1 [.ptr 0 [] 0] [(0,.var 171 S171 x0)] e91 from W_parse_parser_word h1) c0) pan_ok
 ·replace F0:=sumR F0
  refine sE (rE [0,2,3,5] [0,5000,5001] [(1,⟨[.v .unit],vs t1.1,some ([0],[(0,.var 171 S171 t1.2)])⟩)] [] 5002 rfl (bE rfl (qE rfl (oE [0,2,3,5,8] [0,5000,5001] 5002 rfl (fA [(0,.ptr 0 [] 0),(2,.ptr 5000 [] 0),(3,.ptr 5001 [] 0),(5,vs t1.1),(8,vb (t1.1==([111,112,101,110]:Str)))] [(0,.var 171 S171 t1.2),(5000,.var 86 S86 (0,0,0,0,0,0,[])),(5001,.var 86 S86 (0,0,0,0,0,0,[]))] (cc (show Mut Tryz.prog 168 1 [.ptr 0 [] 0] [(0,.var 171 S171 x0)] (vs t1.1) [(0,.var 171 S171 t1.2)] from W_parse_parser_word h1) c0) ?_)))))
  refine run_if rfl rfl (fun h2=>?_) (fun h2=>?_)
  ·replace F0:=ift h2 F0
   obtain ⟨u2,h3,F0⟩:=obd F0
   refine rB [(0,.ptr 0 [] 0),(2,.ptr 5000 [] 0),(3,.ptr 5001 [] 0)] [(0,.var 171 S171 t1.2),(5000,.var 86 S86 (0,0,0,0,0,0,[])),(5001,.var 86 S86 (0,0,0,0,0,0,[]))] 5002 rfl c0 (eb (sq rfl ?_))
   rcases u2 with e92|t2
   ·replace F0:=sumL F0
    obtain rfl:=inj F0
    exact rgP 4 [] [] 5002 [.v .bool] [] e92 rfl (by kernel_rfl) (cc (show Pan Tryz.prog 173 0 [vb t1.2.2] [] e92 from W_parse_need h3) c0) pan_ok
   ·replace F0:=sumR F0
    refine sE (rE [2,3] [0,5000,5001] [(4,⟨[.v .bool],.tup [],some ([],[])⟩)] [] 5002 rfl (qE rfl (oE [2] [0,5000] 5002 rfl (fA [(2,.ptr 5000 [] 0)] [(0,.var 171 S171 t1.2),(5000,.var 86 S86 (0,0,0,0,0,0,[]))] (cc (show Mut Tryz.prog 173 0 [vb t1.2.2] [] (.tup []) [] from W_parse_need h3) c0) ?_))))
    obtain rfl:=inj F0
    exact ret_mut (q:=[.v S86 (0,0,0,0,0,0,[])]) [some S86] [0] rfl rfl (by kernel_rfl) rfl (by kernel_rfl)
  ·replace F0:=ifn h2 F0
   refine sq rfl (rB [(0,.ptr 0 [] 0),(2,.ptr 5000 [] 0),(3,.ptr 5001 [] 0),(5,vs t1.1),(11,vb (t1.1==([99,108,111,115,101]:Str)))] [(0,.var 171 S171 t1.2),(5000,.var 86 S86 (0,0,0,0,0,0,[])),(5001,.var 86 S86 (0,0,0,0,0,0,[]))] 5002 rfl c0 ?_)
   refine run_if rfl rfl (fun h4=>?_) (fun h4=>?_)
   ·replace F0:=ift h4 F0
    obtain ⟨u3,h5,F0⟩:=obd F0
    rcases u3 with e93|t3
    ·replace F0:=sumL F0
     obtain rfl:=inj F0
     exact rgP 1 [] [] 5002 [.v .unit] [0] e93 rfl (by kernel_rfl) (cc (show Pan Tryz.prog 169 1 [.ptr 0 [] 0] [(0,.var 171 S171 t1.2)] e93 from W_parse_parser_handle h5) c0) pan_ok
    ·replace F0:=sumR F0
     obtain ⟨u4,h6,F0⟩:=obd F0
     refine rA [(0,.ptr 0 [] 0),(2,.ptr 5000 [] 0),(3,.ptr 5001 [] 0)] [(0,.var 171 S171 t3.2),(5000,.var 86 S86 (0,0,0,0,0,0,[])),(5001,.var 86 S86 (1,t3.1,0,0,0,0,[]))] [(1,⟨[.v .unit],vu t3.1,some ([0],[(0,.var 171 S171 t3.2)])⟩)] [] 5002 rfl (cc (show Mut Tryz.prog 169 1 [.ptr 0 [] 0] [(0,.var 171 S171 t1.2)] (vu t3.1) [(0,.var 171 S171 t3.2)] from W_parse_parser_handle h5) c0) (eb (sq rfl ?_))
     rcases u4 with e94|t4
     ·replace F0:=sumL F0
      obtain rfl:=inj F0
      exact rgP 4 [] [] 5002 [.v .bool] [] e94 rfl (by kernel_rfl) (cc (show Pan Tryz.prog 173 0 [vb t3.2.2] [] e94 from W_parse_need h6) c0) pan_ok
     ·replace F0:=sumR F0
      refine sE (rE [2,3] [0,5000,5001] [(4,⟨[.v .bool],.tup [],some ([],[])⟩)] [] 5002 rfl (qE rfl (oE [2] [0,5000] 5002 rfl (fA [(2,.ptr 5000 [] 0)] [(0,.var 171 S171 t3.2),(5000,.var 86 S86 (1,t3.1,0,0,0,0,[]))] (cc (show Mut Tryz.prog 173 0 [vb t3.2.2] [] (.tup []) [] from W_parse_need h6) c0) ?_))))
      obtain rfl:=inj F0
      exact ret_mut (q:=[.v S86 (1,t3.1,0,0,0,0,[])]) [some S86] [0] rfl rfl (by kernel_rfl) rfl (by kernel_rfl)
   ·replace F0:=ifn h4 F0
    refine sq rfl (rB [(0,.ptr 0 [] 0),(2,.ptr 5000 [] 0),(3,.ptr 5001 [] 0),(5,vs t1.1),(16,vb (t1.1==([109,105,110,116]:Str)))] [(0,.var 171 S171 t1.2),(5000,.var 86 S86 (0,0,0,0,0,0,[])),(5001,.var 86 S86 (0,0,0,0,0,0,[]))] 5002 rfl c0 ?_)
    refine run_if rfl rfl (fun h7=>?_) (fun h7=>?_)
    ·replace F0:=ift h7 F0
     obtain ⟨u5,h8,F0⟩:=obd F0
     refine sq rfl ?_
     rcases u5 with e95|t5
     ·replace F0:=sumL F0
      obtain rfl:=inj F0
      exact rgP 1 [] [] 5002 [.v .unit] [0] e95 rfl (by kernel_rfl) (cc (show Pan Tryz.prog 169 1 [.ptr 0 [] 0] [(0,.var 171 S171 t1.2)] e95 from W_parse_parser_handle h8) c0) pan_ok
     ·replace F0:=sumR F0
      obtain ⟨u6,h9,F0⟩:=obd F0
      refine rA [(0,.ptr 0 [] 0),(2,.ptr 5000 [] 0),(3,.ptr 5001 [] 0)] [(0,.var 171 S171 t5.2),(5000,.var 86 S86 (0,0,0,0,0,0,[])),(5001,.var 86 S86 (2,t5.1,0,0,0,0,[]))] [(1,⟨[.v .unit],vu t5.1,some ([0],[(0,.var 171 S171 t5.2)])⟩)] [] 5002 rfl (cc (show Mut Tryz.prog 169 1 [.ptr 0 [] 0] [(0,.var 171 S171 t1.2)] (vu t5.1) [(0,.var 171 S171 t5.2)] from W_parse_parser_handle h8) c0) ?_
      rcases u6 with e96|t6
      ·replace F0:=sumL F0
       obtain rfl:=inj F0
       exact rgP 1 [] [] 5002 [.v .unit,.v (.int .i64),.v (.int .i64)] [0] e96 rfl (by kernel_rfl) (cc (show Pan Tryz.prog 170 1 [.ptr 0 [] 0,vi 1,vi 7] [(0,.var 171 S171 t5.2)] e96 from W_parse_parser_small h9) c0) pan_ok
      ·replace F0:=sumR F0
       obtain ⟨u7,h10,F0⟩:=obd F0
       refine rA [(0,.ptr 0 [] 0),(2,.ptr 5000 [] 0),(3,.ptr 5001 [] 0)] [(0,.var 171 S171 t6.2),(5000,.var 86 S86 (0,0,0,0,0,0,[])),(5001,.var 86 S86 (2,t5.1,0,t6.1,0,0,[]))] [(1,⟨[.v .unit,.v (.int .i64),.v (.int .i64)],vi t6.1,some ([0],[(0,.var 171 S171 t6.2)])⟩)] [] 5002 rfl (cc (show Mut Tryz.prog 170 1 [.ptr 0 [] 0,vi 1,vi 7] [(0,.var 171 S171 t5.2)] (vi t6.1) [(0,.var 171 S171 t6.2)] from W_parse_parser_small h9) c0) (eb (sq rfl ?_))
       rcases u7 with e97|t7
       ·replace F0:=sumL F0
        obtain rfl:=inj F0
        exact rgP 4 [] [] 5002 [.v .bool] [] e97 rfl (by kernel_rfl) (cc (show Pan Tryz.prog 173 0 [vb t6.2.2] [] e97 from W_parse_need h10) c0) pan_ok
       ·replace F0:=sumR F0
        refine sE (rE [2,3] [0,5000,5001] [(4,⟨[.v .bool],.tup [],some ([],[])⟩)] [] 5002 rfl (qE rfl (oE [2] [0,5000] 5002 rfl (fA [(2,.ptr 5000 [] 0)] [(0,.var 171 S171 t6.2),(5000,.var 86 S86 (2,t5.1,0,t6.1,0,0,[]))] (cc (show Mut Tryz.prog 173 0 [vb t6.2.2] [] (.tup []) [] from W_parse_need h10) c0) ?_))))
        obtain rfl:=inj F0
        exact ret_mut (q:=[.v S86 (2,t5.1,0,t6.1,0,0,[])]) [some S86] [0] rfl rfl (by kernel_rfl) rfl (by kernel_rfl)
    ·replace F0:=ifn h7 F0
     refine sq rfl (rB [(0,.ptr 0 [] 0),(2,.ptr 5000 [] 0),(3,.ptr 5001 [] 0),(5,vs t1.1),(24,vb (t1.1==([114,101,118,111,107,101]:Str)))] [(0,.var 171 S171 t1.2),(5000,.var 86 S86 (0,0,0,0,0,0,[])),(5001,.var 86 S86 (0,0,0,0,0,0,[]))] 5002 rfl c0 ?_)
     refine run_if rfl rfl (fun h11=>?_) (fun h11=>?_)
     ·replace F0:=ift h11 F0
      obtain ⟨u8,h12,F0⟩:=obd F0
      refine sq rfl ?_
      rcases u8 with e98|t8
      ·replace F0:=sumL F0
       obtain rfl:=inj F0
       exact rgP 1 [] [] 5002 [.v .unit] [0] e98 rfl (by kernel_rfl) (cc (show Pan Tryz.prog 169 1 [.ptr 0 [] 0] [(0,.var 171 S171 t1.2)] e98 from W_parse_parser_handle h12) c0) pan_ok
      ·replace F0:=sumR F0
       obtain ⟨u9,h13,F0⟩:=obd F0
       refine rA [(0,.ptr 0 [] 0),(2,.ptr 5000 [] 0),(3,.ptr 5001 [] 0)] [(0,.var 171 S171 t8.2),(5000,.var 86 S86 (0,0,0,0,0,0,[])),(5001,.var 86 S86 (3,t8.1,0,0,0,0,[]))] [(1,⟨[.v .unit],vu t8.1,some ([0],[(0,.var 171 S171 t8.2)])⟩)] [] 5002 rfl (cc (show Mut Tryz.prog 169 1 [.ptr 0 [] 0] [(0,.var 171 S171 t1.2)] (vu t8.1) [(0,.var 171 S171 t8.2)] from W_parse_parser_handle h12) c0) ?_
       rcases u9 with e99|t9
       ·replace F0:=sumL F0
        obtain rfl:=inj F0
        exact rgP 1 [] [] 5002 [.v .unit] [0] e99 rfl (by kernel_rfl) (cc (show Pan Tryz.prog 169 1 [.ptr 0 [] 0] [(0,.var 171 S171 t8.2)] e99 from W_parse_parser_handle h13) c0) pan_ok
       ·replace F0:=sumR F0
        obtain ⟨u10,h14,F0⟩:=obd F0
        refine rA [(0,.ptr 0 [] 0),(2,.ptr 5000 [] 0),(3,.ptr 5001 [] 0)] [(0,.var 171 S171 t9.2),(5000,.var 86 S86 (0,0,0,0,0,0,[])),(5001,.var 86 S86 (3,t8.1,t9.1,0,0,0,[]))] [(1,⟨[.v .unit],vu t9.1,some ([0],[(0,.var 171 S171 t9.2)])⟩)] [] 5002 rfl (cc (show Mut Tryz.prog 169 1 [.ptr 0 [] 0] [(0,.var 171 S171 t8.2)] (vu t9.1) [(0,.var 171 S171 t9.2)] from W_parse_parser_handle h13) c0) (eb (sq rfl ?_))
        rcases u10 with e910|t10
        ·replace F0:=sumL F0
         obtain rfl:=inj F0
         exact rgP 4 [] [] 5002 [.v .bool] [] e910 rfl (by kernel_rfl) (cc (show Pan Tryz.prog 173 0 [vb t9.2.2] [] e910 from W_parse_need h14) c0) pan_ok
        ·replace F0:=sumR F0
         refine sE (rE [2,3] [0,5000,5001] [(4,⟨[.v .bool],.tup [],some ([],[])⟩)] [] 5002 rfl (qE rfl (oE [2] [0,5000] 5002 rfl (fA [(2,.ptr 5000 [] 0)] [(0,.var 171 S171 t9.2),(5000,.var 86 S86 (3,t8.1,t9.1,0,0,0,[]))] (cc (show Mut Tryz.prog 173 0 [vb t9.2.2] [] (.tup []) [] from W_parse_need h14) c0) ?_))))
         obtain rfl:=inj F0
         exact ret_mut (q:=[.v S86 (3,t8.1,t9.1,0,0,0,[])]) [some S86] [0] rfl rfl (by kernel_rfl) rfl (by kernel_rfl)
     ·replace F0:=ifn h11 F0
      refine sq rfl (rB [(0,.ptr 0 [] 0),(2,.ptr 5000 [] 0),(3,.ptr 5001 [] 0),(5,vs t1.1),(32,vb (t1.1==([106,111,105,110]:Str)))] [(0,.var 171 S171 t1.2),(5000,.var 86 S86 (0,0,0,0,0,0,[])),(5001,.var 86 S86 (0,0,0,0,0,0,[]))] 5002 rfl c0 ?_)
      refine run_if rfl rfl (fun h15=>?_) (fun h15=>?_)
      ·replace F0:=ift h15 F0
       obtain ⟨u11,h16,F0⟩:=obd F0
       refine sq rfl ?_
       rcases u11 with e911|t11
       ·replace F0:=sumL F0
        obtain rfl:=inj F0
        exact rgP 1 [] [] 5002 [.v .unit] [0] e911 rfl (by kernel_rfl) (cc (show Pan Tryz.prog 169 1 [.ptr 0 [] 0] [(0,.var 171 S171 t1.2)] e911 from W_parse_parser_handle h16) c0) pan_ok
       ·replace F0:=sumR F0
        obtain ⟨u12,h17,F0⟩:=obd F0
        refine rA [(0,.ptr 0 [] 0),(2,.ptr 5000 [] 0),(3,.ptr 5001 [] 0)] [(0,.var 171 S171 t11.2),(5000,.var 86 S86 (0,0,0,0,0,0,[])),(5001,.var 86 S86 (4,t11.1,0,0,0,0,[]))] [(1,⟨[.v .unit],vu t11.1,some ([0],[(0,.var 171 S171 t11.2)])⟩)] [] 5002 rfl (cc (show Mut Tryz.prog 169 1 [.ptr 0 [] 0] [(0,.var 171 S171 t1.2)] (vu t11.1) [(0,.var 171 S171 t11.2)] from W_parse_parser_handle h16) c0) ?_
        rcases u12 with e912|t12
        ·replace F0:=sumL F0
         obtain rfl:=inj F0
         exact rgP 1 [] [] 5002 [.v .unit,.v (.int .i64),.v (.int .i64)] [0] e912 rfl (by kernel_rfl) (cc (show Pan Tryz.prog 170 1 [.ptr 0 [] 0,vi 0,vi 7] [(0,.var 171 S171 t11.2)] e912 from W_parse_parser_small h17) c0) pan_ok
        ·replace F0:=sumR F0
         obtain ⟨u13,h18,F0⟩:=obd F0
         refine rA [(0,.ptr 0 [] 0),(2,.ptr 5000 [] 0),(3,.ptr 5001 [] 0)] [(0,.var 171 S171 t12.2),(5000,.var 86 S86 (0,0,0,0,0,0,[])),(5001,.var 86 S86 (4,t11.1,0,0,t12.1,0,[]))] [(1,⟨[.v .unit,.v (.int .i64),.v (.int .i64)],vi t12.1,some ([0],[(0,.var 171 S171 t12.2)])⟩)] [] 5002 rfl (cc (show Mut Tryz.prog 170 1 [.ptr 0 [] 0,vi 0,vi 7] [(0,.var 171 S171 t11.2)] (vi t12.1) [(0,.var 171 S171 t12.2)] from W_parse_parser_small h17) c0) (eb (sq rfl ?_))
         rcases u13 with e913|t13
         ·replace F0:=sumL F0
          obtain rfl:=inj F0
          exact rgP 4 [] [] 5002 [.v .bool] [] e913 rfl (by kernel_rfl) (cc (show Pan Tryz.prog 173 0 [vb t12.2.2] [] e913 from W_parse_need h18) c0) pan_ok
         ·replace F0:=sumR F0
          refine sE (rE [2,3] [0,5000,5001] [(4,⟨[.v .bool],.tup [],some ([],[])⟩)] [] 5002 rfl (qE rfl (oE [2] [0,5000] 5002 rfl (fA [(2,.ptr 5000 [] 0)] [(0,.var 171 S171 t12.2),(5000,.var 86 S86 (4,t11.1,0,0,t12.1,0,[]))] (cc (show Mut Tryz.prog 173 0 [vb t12.2.2] [] (.tup []) [] from W_parse_need h18) c0) ?_))))
          obtain rfl:=inj F0
          exact ret_mut (q:=[.v S86 (4,t11.1,0,0,t12.1,0,[])]) [some S86] [0] rfl rfl (by kernel_rfl) rfl (by kernel_rfl)
      ·replace F0:=ifn h15 F0
       refine sq rfl (rB [(0,.ptr 0 [] 0),(2,.ptr 5000 [] 0),(3,.ptr 5001 [] 0),(5,vs t1.1),(40,vb (t1.1==([108,101,97,118,101]:Str)))] [(0,.var 171 S171 t1.2),(5000,.var 86 S86 (0,0,0,0,0,0,[])),(5001,.var 86 S86 (0,0,0,0,0,0,[]))] 5002 rfl c0 ?_)
       refine run_if rfl rfl (fun h19=>?_) (fun h19=>?_)
       ·replace F0:=ift h19 F0
        obtain ⟨u14,h20,F0⟩:=obd F0
        refine sq rfl ?_
        rcases u14 with e914|t14
        ·replace F0:=sumL F0
         obtain rfl:=inj F0
         exact rgP 1 [] [] 5002 [.v .unit] [0] e914 rfl (by kernel_rfl) (cc (show Pan Tryz.prog 169 1 [.ptr 0 [] 0] [(0,.var 171 S171 t1.2)] e914 from W_parse_parser_handle h20) c0) pan_ok
        ·replace F0:=sumR F0
         obtain ⟨u15,h21,F0⟩:=obd F0
         refine rA [(0,.ptr 0 [] 0),(2,.ptr 5000 [] 0),(3,.ptr 5001 [] 0)] [(0,.var 171 S171 t14.2),(5000,.var 86 S86 (0,0,0,0,0,0,[])),(5001,.var 86 S86 (5,t14.1,0,0,0,0,[]))] [(1,⟨[.v .unit],vu t14.1,some ([0],[(0,.var 171 S171 t14.2)])⟩)] [] 5002 rfl (cc (show Mut Tryz.prog 169 1 [.ptr 0 [] 0] [(0,.var 171 S171 t1.2)] (vu t14.1) [(0,.var 171 S171 t14.2)] from W_parse_parser_handle h20) c0) ?_
         rcases u15 with e915|t15
         ·replace F0:=sumL F0
          obtain rfl:=inj F0
          exact rgP 1 [] [] 5002 [.v .unit,.v (.int .i64),.v (.int .i64)] [0] e915 rfl (by kernel_rfl) (cc (show Pan Tryz.prog 170 1 [.ptr 0 [] 0,vi 0,vi 7] [(0,.var 171 S171 t14.2)] e915 from W_parse_parser_small h21) c0) pan_ok
         ·replace F0:=sumR F0
          obtain ⟨u16,h22,F0⟩:=obd F0
          refine rA [(0,.ptr 0 [] 0),(2,.ptr 5000 [] 0),(3,.ptr 5001 [] 0)] [(0,.var 171 S171 t15.2),(5000,.var 86 S86 (0,0,0,0,0,0,[])),(5001,.var 86 S86 (5,t14.1,0,0,t15.1,0,[]))] [(1,⟨[.v .unit,.v (.int .i64),.v (.int .i64)],vi t15.1,some ([0],[(0,.var 171 S171 t15.2)])⟩)] [] 5002 rfl (cc (show Mut Tryz.prog 170 1 [.ptr 0 [] 0,vi 0,vi 7] [(0,.var 171 S171 t14.2)] (vi t15.1) [(0,.var 171 S171 t15.2)] from W_parse_parser_small h21) c0) (eb (sq rfl ?_))
          rcases u16 with e916|t16
          ·replace F0:=sumL F0
           obtain rfl:=inj F0
           exact rgP 4 [] [] 5002 [.v .bool] [] e916 rfl (by kernel_rfl) (cc (show Pan Tryz.prog 173 0 [vb t15.2.2] [] e916 from W_parse_need h22) c0) pan_ok
          ·replace F0:=sumR F0
           refine sE (rE [2,3] [0,5000,5001] [(4,⟨[.v .bool],.tup [],some ([],[])⟩)] [] 5002 rfl (qE rfl (oE [2] [0,5000] 5002 rfl (fA [(2,.ptr 5000 [] 0)] [(0,.var 171 S171 t15.2),(5000,.var 86 S86 (5,t14.1,0,0,t15.1,0,[]))] (cc (show Mut Tryz.prog 173 0 [vb t15.2.2] [] (.tup []) [] from W_parse_need h22) c0) ?_))))
           obtain rfl:=inj F0
           exact ret_mut (q:=[.v S86 (5,t14.1,0,0,t15.1,0,[])]) [some S86] [0] rfl rfl (by kernel_rfl) rfl (by kernel_rfl)
       ·replace F0:=ifn h19 F0
        refine sq rfl (rB [(0,.ptr 0 [] 0),(2,.ptr 5000 [] 0),(3,.ptr 5001 [] 0),(48,vb (t1.1==([115,101,110,100]:Str)))] [(0,.var 171 S171 t1.2),(5000,.var 86 S86 (0,0,0,0,0,0,[])),(5001,.var 86 S86 (0,0,0,0,0,0,[]))] 5002 rfl c0 ?_)
        refine run_if rfl rfl (fun h23=>?_) (fun h23=>?_)
        ·replace F0:=ift h23 F0
         obtain ⟨u17,h24,F0⟩:=obd F0
         refine sq rfl ?_
         rcases u17 with e917|t17
         ·replace F0:=sumL F0
          obtain rfl:=inj F0
          exact rgP 1 [] [] 5002 [.v .unit] [0] e917 rfl (by kernel_rfl) (cc (show Pan Tryz.prog 169 1 [.ptr 0 [] 0] [(0,.var 171 S171 t1.2)] e917 from W_parse_parser_handle h24) c0) pan_ok
         ·replace F0:=sumR F0
          obtain ⟨u18,h25,F0⟩:=obd F0
          refine rA [(0,.ptr 0 [] 0),(2,.ptr 5000 [] 0),(3,.ptr 5001 [] 0)] [(0,.var 171 S171 t17.2),(5000,.var 86 S86 (0,0,0,0,0,0,[])),(5001,.var 86 S86 (6,t17.1,0,0,0,0,[]))] [(1,⟨[.v .unit],vu t17.1,some ([0],[(0,.var 171 S171 t17.2)])⟩)] [] 5002 rfl (cc (show Mut Tryz.prog 169 1 [.ptr 0 [] 0] [(0,.var 171 S171 t1.2)] (vu t17.1) [(0,.var 171 S171 t17.2)] from W_parse_parser_handle h24) c0) (sq rfl ?_)
          rcases u18 with e918|t18
          ·replace F0:=sumL F0
           obtain rfl:=inj F0
           exact rgP 1 [] [] 5002 [.v .unit,.v (.int .i64),.v (.int .i64)] [0] e918 rfl (by kernel_rfl) (cc (show Pan Tryz.prog 170 1 [.ptr 0 [] 0,vi 0,vi 7] [(0,.var 171 S171 t17.2)] e918 from W_parse_parser_small h25) c0) pan_ok
          ·replace F0:=sumR F0
           obtain ⟨u19,h26,F0⟩:=obd F0
           refine rA [(0,.ptr 0 [] 0),(2,.ptr 5000 [] 0),(3,.ptr 5001 [] 0)] [(0,.var 171 S171 t18.2),(5000,.var 86 S86 (0,0,0,0,0,0,[])),(5001,.var 86 S86 (6,t17.1,0,0,t18.1,0,[]))] [(1,⟨[.v .unit,.v (.int .i64),.v (.int .i64)],vi t18.1,some ([0],[(0,.var 171 S171 t18.2)])⟩)] [] 5002 rfl (cc (show Mut Tryz.prog 170 1 [.ptr 0 [] 0,vi 0,vi 7] [(0,.var 171 S171 t17.2)] (vi t18.1) [(0,.var 171 S171 t18.2)] from W_parse_parser_small h25) c0) (sq rfl ?_)
           rcases u19 with e919|t19
           ·replace F0:=sumL F0
            obtain rfl:=inj F0
            exact rgP 1 [] [] 5002 [.v .unit] [0] e919 rfl (by kernel_rfl) (cc (show Pan Tryz.prog 171 1 [.ptr 0 [] 0] [(0,.var 171 S171 t18.2)] e919 from W_parse_parser_service h26) c0) pan_ok
           ·replace F0:=sumR F0
            obtain ⟨u20,h27,F0⟩:=obd F0
            refine rA [(0,.ptr 0 [] 0),(2,.ptr 5000 [] 0),(3,.ptr 5001 [] 0)] [(0,.var 171 S171 t19.2),(5000,.var 86 S86 (0,0,0,0,0,0,[])),(5001,.var 86 S86 (6,t17.1,0,0,t18.1,t19.1,[]))] [(1,⟨[.v .unit],vi t19.1,some ([0],[(0,.var 171 S171 t19.2)])⟩)] [] 5002 rfl (cc (show Mut Tryz.prog 171 1 [.ptr 0 [] 0] [(0,.var 171 S171 t18.2)] (vi t19.1) [(0,.var 171 S171 t19.2)] from W_parse_parser_service h26) c0) ?_
            rcases u20 with e920|t20
            ·replace F0:=sumL F0
             obtain rfl:=inj F0
             exact rgP 1 [] [] 5002 [.v .unit] [0] e920 rfl (by kernel_rfl) (cc (show Pan Tryz.prog 172 1 [.ptr 0 [] 0] [(0,.var 171 S171 t19.2)] e920 from W_parse_parser_text h27) c0) pan_ok
            ·replace F0:=sumR F0
             obtain ⟨u21,h28,F0⟩:=obd F0
             refine rA [(0,.ptr 0 [] 0),(2,.ptr 5000 [] 0),(3,.ptr 5001 [] 0)] [(0,.var 171 S171 t20.2),(5000,.var 86 S86 (0,0,0,0,0,0,[])),(5001,.var 86 S86 (6,t17.1,0,0,t18.1,t19.1,t20.1))] [(1,⟨[.v .unit],vs t20.1,some ([0],[(0,.var 171 S171 t20.2)])⟩)] [] 5002 rfl (cc (show Mut Tryz.prog 172 1 [.ptr 0 [] 0] [(0,.var 171 S171 t19.2)] (vs t20.1) [(0,.var 171 S171 t20.2)] from W_parse_parser_text h27) c0) (eb (sq rfl ?_))
             rcases u21 with e921|t21
             ·replace F0:=sumL F0
              obtain rfl:=inj F0
              exact rgP 4 [] [] 5002 [.v .bool] [] e921 rfl (by kernel_rfl) (cc (show Pan Tryz.prog 173 0 [vb t20.2.2] [] e921 from W_parse_need h28) c0) pan_ok
             ·replace F0:=sumR F0
              refine sE (rE [2,3] [0,5000,5001] [(4,⟨[.v .bool],.tup [],some ([],[])⟩)] [] 5002 rfl (qE rfl (oE [2] [0,5000] 5002 rfl (fA [(2,.ptr 5000 [] 0)] [(0,.var 171 S171 t20.2),(5000,.var 86 S86 (6,t17.1,0,0,t18.1,t19.1,t20.1))] (cc (show Mut Tryz.prog 173 0 [vb t20.2.2] [] (.tup []) [] from W_parse_need h28) c0) ?_))))
              obtain rfl:=inj F0
              exact ret_mut (q:=[.v S86 (6,t17.1,0,0,t18.1,t19.1,t20.1)]) [some S86] [0] rfl rfl (by kernel_rfl) rfl (by kernel_rfl)
        ·replace F0:=ifn h23 F0
         obtain rfl:=inj F0
         exact rgQ (T:=167) (α:=.v Z167 ()) 1 [] 5002 (.iface 167 (.agg #[])) rfl (by kernel_rfl) c0 (fun M φ u h=>by obtain ⟨_,cs,rfl,h⟩:=h;first|(obtain ⟨rfl,_⟩:=h;rfl)|(cases h;rfl)) pan_ok
noncomputable def F_parse_Parse (x0:Str):Option (S86.ty×Int) :=
 (F_parse_parser_call (x0,false)).bind (Sum.elim (fun e91=>(recU 167 e91).bind fun n1=>(some ((0,0,0,0,0,0,[]),210))) (fun t1=>some (t1.1,0)))
theorem W_parse_Parse {x0:Str} {y:(S86.ty×Int)} (F0:F_parse_Parse x0=some y):Mut Tryz.prog 66 0 [vs x0] [] (.tup [.v S86 y.1,vi y.2]) []:=by
 unfold F_parse_Parse at F0
 refine mutD_of_run @Tryz.call66 @Tryz.func66 rfl rfl fun b hb=>?_
 refine sq rfl (rB [(0,vs x0),(2,.ptr 0 [] 0),(3,.ptr 20 [] 0)] [(0,.var 86 S86 (0,0,0,0,0,0,[])),(20,.var 41 (.int .i64) 0)] 0 rfl c0 (sq rfl (rgD (g:=104) (caps:=[.ptr 0 [] 0,.ptr 20 [] 0]) 40 [(0,vs x0),(2,.ptr 0 [] 0),(3,.ptr 20 [] 0)] [(0,.var 86 S86 (0,0,0,0,0,0,[])),(20,.var 41 (.int .i64) 0)] 0 1 hb rfl (by kernel_rfl) c0 rfl fun b1 D=>?_)))
 obtain ⟨u1,h1,F0⟩:=obd F0
 refine sq rfl (rB [(2,.ptr 0 [] 0),(3,.ptr 20 [] 0),(4,.ptr 5040 [] 0)] [(0,.var 86 S86 (0,0,0,0,0,0,[])),(20,.var 41 (.int .i64) 0),(5040,.var 171 S171 (x0,false))] 5000 rfl c0 (sq rfl ?_))
 rcases u1 with e91|t1
 ·replace F0:=sumL F0
  obtain ⟨n1,h2,F0⟩:=obd F0
  obtain rfl:=inj F0
  obtain rfl:=recU_ok h2
  exact rgPD [(2,.ptr 0 [] 0),(3,.ptr 20 [] 0)] [(0,.var 86 S86 (0,0,0,0,0,0,[])),(20,.var 41 (.int .i64) 0)] 1 [] [] 5041 [.v .unit] [5040] (.iface 167 (.agg #[])) rfl (by kernel_rfl) (cc (show Pan Tryz.prog 105 1 [.ptr 0 [] 0] [(0,.var 171 S171 (x0,false))] (.iface 167 (.agg #[]):Value) from W_parse_parser_call h1) c0) (pan_mutD (Hn:=[(0,.var 86 S86 (0,0,0,0,0,0,[])),(20,.var 41 (.int .i64) 210)]) (q:=[.v S86 (0,0,0,0,0,0,[]),vi 210]) D @Tryz.call104 (D1_parse) [some S86,some (.int .i64)] [] rfl rfl rfl (by kernel_rfl) rfl (by kernel_rfl))
 ·replace F0:=sumR F0
  refine rA [(2,.ptr 0 [] 0),(3,.ptr 20 [] 0)] [(0,.var 86 S86 t1.1),(20,.var 41 (.int .i64) 0)] [(1,⟨[.v .unit],.v S86 t1.1,some ([5040],[(0,.var 171 S171 t1.2)])⟩)] [] 5041 rfl (cc (show Mut Tryz.prog 105 1 [.ptr 0 [] 0] [(0,.var 171 S171 (x0,false))] (.v S86 t1.1) [(0,.var 171 S171 t1.2)] from W_parse_parser_call h1) c0) ?_
  obtain rfl:=inj F0
  exact ret_mutD D @Tryz.call104 D0_parse (q:=[.v S86 t1.1,vi 0]) [some S86,some (.int .i64)] [] rfl rfl (by kernel_rfl) rfl (by kernel_rfl)
end Go.Proofs.YtglfdihomfhmmaaGreatDoor
