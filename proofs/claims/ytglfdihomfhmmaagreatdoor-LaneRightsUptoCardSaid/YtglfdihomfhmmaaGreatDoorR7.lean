/- Laws of my own that the statement leans on; part R7. -/
import Derived.IntWalk
import Derived.Test.YtglfdihomfhmmaaGreatDoorR6
set_option linter.unusedVariables false
set_option linter.unusedSimpArgs false
open List (length replicate getD drop take)
open Option.some (inj injEq)
open Int (toNat)
open Go.IntKind (wrap)
namespace Go.Proofs.YtglfdihomfhmmaaGreatDoor
open Go.RowKit
theorem loopO_fin {σ τ:Type} {body:σ→Option (σ⊕τ)} {s:σ} {r:τ} (h:body s=some (.inr r)):loopO body s=some r:=by rw [loopO_eq,h];rfl
theorem ins1 (x:Int):F_slices_insertionSortOrdered_uint64 [x] 0 1=some [x]:=by
 unfold F_slices_insertionSortOrdered_uint64
 rw [loopO_fin (r:=[x]) (by rfl)]
 rfl
set_option maxRecDepth 100000 in
theorem sort1 (x:Int):F_slices_Sort_uint64_uint64 [x]=some [x]:=by
 unfold F_slices_Sort_uint64_uint64
 obtain ⟨t,e⟩:∃t,F_math_bits_Len (wrap .u64 ((length [x]:Nat):Int))=some t:=⟨1,by kernel_rfl⟩
 have h:F_slices_pdqsortOrdered_uint64 [x] 0 ((length [x]:Nat):Int) t=some [x]:=by
  show F_slices_pdqsortOrdered_uint64_s (F_slices_pdqsortOrdered_uint64_n 1) [x] 0 1 t=_
  unfold F_slices_pdqsortOrdered_uint64_s
  rw [loopO_fin (r:=[x])]
  ·rfl
  ·unfold F_slices_pdqsortOrdered_uint64_s_b1
   have:=ins1 x
   rw [if_pos (by rfl)]
   show (F_slices_insertionSortOrdered_uint64 [x] 0 1).bind _=_
   rw [this]
   rfl
 rw [e,Option.bind_some,h]
 rfl
def G_slices_Sort_uint64_uint64 (l:List Int):Option (List Int):=match l with
 | [x]=>some [x]
 | _=>none
theorem M_slices_Sort_uint64_uint64 {l:List Int}:LeO (G_slices_Sort_uint64_uint64 l) (F_slices_Sort_uint64_uint64 l):=by
 intro y hy
 match l,hy with
 | [x],hy=>rw [sort1 x];exact hy
end Go.Proofs.YtglfdihomfhmmaaGreatDoor
set_option maxRecDepth 100000
namespace Go.Proofs.YtglfdihomfhmmaaGreatDoor
open Go.RowKit
noncomputable def G_strconv_FormatUint (x0:Int) (x1:Int):Option Str :=
 (G_internal_strconv_FormatUint x0 x1).bind fun t1=>(some t1)
theorem M_strconv_FormatUint {x0:Int} {x1:Int}  : LeO (G_strconv_FormatUint x0 x1) (F_strconv_FormatUint x0 x1):=by
 unfold G_strconv_FormatUint F_strconv_FormatUint
 repeat' first|with_reducible exact LeO.rfl|with_reducible refine M_internal_strconv_FormatUint|with_reducible refine LeO.ite ?_ ?_|with_reducible refine LeO.bind ?_ (fun _=>?_)|with_reducible refine LeO.elim (fun _=>?_) (fun _=>?_) _|with_reducible refine LeO.loop (fun _=>?_)
noncomputable def G_parse_parser_number (x0:S171.ty) (x1:Int) (x2:Int):Option (Value⊕(Int×S171.ty)) :=
 (F_parse_parser_word x0).bind (Sum.elim (fun e91=>some (Sum.inl e91)) (fun t1=>(G_strconv_ParseUint t1.1 10 64).bind fun t2=>((show Option ((Value⊕(Int×S171.ty))⊕Unit) from if t2.2=true then (G_strconv_FormatUint t2.1 10).bind fun t3=>(if (t3==t1.1)=true then if (decide (t2.1≥x1))=true then (F_parse_need (decide (t2.1≤x2))).bind (Sum.elim (fun e94=>some (Sum.inl (Sum.inl e94))) (fun t4=>some (Sum.inr ()))) else (F_parse_need false).bind (Sum.elim (fun e95=>some (Sum.inl (Sum.inl e95))) (fun t5=>some (Sum.inr ()))) else (F_parse_need false).bind (Sum.elim (fun e96=>some (Sum.inl (Sum.inl e96))) (fun t6=>some (Sum.inr ())))) else (F_parse_need false).bind (Sum.elim (fun e97=>some (Sum.inl (Sum.inl e97))) (fun t7=>some (Sum.inr ())))).bind (Sum.elim some (fun j11=>some (Sum.inr (t2.1,t1.2)))))))
theorem M_parse_parser_number {x0:S171.ty} {x1:Int} {x2:Int}  : LeO (G_parse_parser_number x0 x1 x2) (F_parse_parser_number x0 x1 x2):=by
 unfold G_parse_parser_number F_parse_parser_number
 repeat' first|with_reducible exact LeO.rfl|with_reducible refine M_strconv_ParseUint|with_reducible refine M_strconv_FormatUint|with_reducible refine LeO.ite ?_ ?_|with_reducible refine LeO.bind ?_ (fun _=>?_)|with_reducible refine LeO.elim (fun _=>?_) (fun _=>?_) _|with_reducible refine LeO.loop (fun _=>?_)
noncomputable def G_parse_parser_handle (x0:S171.ty):Option (Value⊕(Int×S171.ty)) :=
 (G_parse_parser_number x0 0 18446744073709551615).bind (Sum.elim (fun e91=>some (Sum.inl e91)) (fun t1=>some (Sum.inr (t1.1,t1.2))))
theorem M_parse_parser_handle {x0:S171.ty}  : LeO (G_parse_parser_handle x0) (F_parse_parser_handle x0):=by
 unfold G_parse_parser_handle F_parse_parser_handle
 repeat' first|with_reducible exact LeO.rfl|with_reducible refine M_parse_parser_number|with_reducible refine LeO.ite ?_ ?_|with_reducible refine LeO.bind ?_ (fun _=>?_)|with_reducible refine LeO.elim (fun _=>?_) (fun _=>?_) _|with_reducible refine LeO.loop (fun _=>?_)
noncomputable def G_parse_parser_small (x0:S171.ty) (x1:Int) (x2:Int):Option (Value⊕(Int×S171.ty)) :=
 (G_parse_parser_number x0 (wrap .u64 x1) (wrap .u64 x2)).bind (Sum.elim (fun e91=>some (Sum.inl e91)) (fun t1=>some (Sum.inr (wrap .i64 t1.1,t1.2))))
theorem M_parse_parser_small {x0:S171.ty} {x1:Int} {x2:Int}  : LeO (G_parse_parser_small x0 x1 x2) (F_parse_parser_small x0 x1 x2):=by
 unfold G_parse_parser_small F_parse_parser_small
 repeat' first|with_reducible exact LeO.rfl|with_reducible refine M_parse_parser_number|with_reducible refine LeO.ite ?_ ?_|with_reducible refine LeO.bind ?_ (fun _=>?_)|with_reducible refine LeO.elim (fun _=>?_) (fun _=>?_) _|with_reducible refine LeO.loop (fun _=>?_)
noncomputable def G_slices_Index_string_string (x0:(List Str)) (x1:Str):Option Int :=
 (loopN 64 (F_slices_Index_string_string_b1 x0 x1) 0).bind (Sum.elim some (fun j11=>some (-1)))
theorem M_slices_Index_string_string {x0:(List Str)} {x1:Str}  : LeO (G_slices_Index_string_string x0 x1) (F_slices_Index_string_string x0 x1):=by
 unfold G_slices_Index_string_string F_slices_Index_string_string
 repeat' first|with_reducible exact LeO.rfl|with_reducible refine LeO.ite ?_ ?_|with_reducible refine LeO.bind ?_ (fun _=>?_)|with_reducible refine LeO.elim (fun _=>?_) (fun _=>?_) _|with_reducible refine LeO.loop (fun _=>?_)
noncomputable def G_parse_parser_service (x0:S171.ty):Option (Value⊕(Int×S171.ty)) :=
 (F_parse_services ).bind fun t1=>((F_parse_parser_word x0).bind (Sum.elim (fun e92=>some (Sum.inl e92)) (fun t2=>(G_slices_Index_string_string t1 t2.1).bind fun t3=>((F_parse_need (decide (t3≥0))).bind (Sum.elim (fun e94=>some (Sum.inl e94)) (fun t4=>some (Sum.inr (t3,t2.2))))))))
theorem M_parse_parser_service {x0:S171.ty}  : LeO (G_parse_parser_service x0) (F_parse_parser_service x0):=by
 unfold G_parse_parser_service F_parse_parser_service
 repeat' first|with_reducible exact LeO.rfl|with_reducible refine M_slices_Index_string_string|with_reducible refine LeO.ite ?_ ?_|with_reducible refine LeO.bind ?_ (fun _=>?_)|with_reducible refine LeO.elim (fun _=>?_) (fun _=>?_) _|with_reducible refine LeO.loop (fun _=>?_)
noncomputable def G_parse_parser_call (x0:S171.ty):Option (Value⊕(S86.ty×S171.ty)) :=
 (F_parse_parser_word x0).bind (Sum.elim (fun e91=>some (Sum.inl e91)) (fun t1=>if (t1.1==([111,112,101,110]:Str))=true then (F_parse_need t1.2.2).bind (Sum.elim (fun e92=>some (Sum.inl e92)) (fun t2=>some (Sum.inr ((0,0,0,0,0,0,[]),t1.2)))) else if (t1.1==([99,108,111,115,101]:Str))=true then (G_parse_parser_handle t1.2).bind (Sum.elim (fun e93=>some (Sum.inl e93)) (fun t3=>(F_parse_need t3.2.2).bind (Sum.elim (fun e94=>some (Sum.inl e94)) (fun t4=>some (Sum.inr ((1,t3.1,0,0,0,0,[]),t3.2)))))) else if (t1.1==([109,105,110,116]:Str))=true then (G_parse_parser_handle t1.2).bind (Sum.elim (fun e95=>some (Sum.inl e95)) (fun t5=>(G_parse_parser_small t5.2 1 7).bind (Sum.elim (fun e96=>some (Sum.inl e96)) (fun t6=>(F_parse_need t6.2.2).bind (Sum.elim (fun e97=>some (Sum.inl e97)) (fun t7=>some (Sum.inr ((2,t5.1,0,t6.1,0,0,[]),t6.2)))))))) else if (t1.1==([114,101,118,111,107,101]:Str))=true then (G_parse_parser_handle t1.2).bind (Sum.elim (fun e98=>some (Sum.inl e98)) (fun t8=>(G_parse_parser_handle t8.2).bind (Sum.elim (fun e99=>some (Sum.inl e99)) (fun t9=>(F_parse_need t9.2.2).bind (Sum.elim (fun e910=>some (Sum.inl e910)) (fun t10=>some (Sum.inr ((3,t8.1,t9.1,0,0,0,[]),t9.2)))))))) else if (t1.1==([106,111,105,110]:Str))=true then (G_parse_parser_handle t1.2).bind (Sum.elim (fun e911=>some (Sum.inl e911)) (fun t11=>(G_parse_parser_small t11.2 0 7).bind (Sum.elim (fun e912=>some (Sum.inl e912)) (fun t12=>(F_parse_need t12.2.2).bind (Sum.elim (fun e913=>some (Sum.inl e913)) (fun t13=>some (Sum.inr ((4,t11.1,0,0,t12.1,0,[]),t12.2)))))))) else if (t1.1==([108,101,97,118,101]:Str))=true then (G_parse_parser_handle t1.2).bind (Sum.elim (fun e914=>some (Sum.inl e914)) (fun t14=>(G_parse_parser_small t14.2 0 7).bind (Sum.elim (fun e915=>some (Sum.inl e915)) (fun t15=>(F_parse_need t15.2.2).bind (Sum.elim (fun e916=>some (Sum.inl e916)) (fun t16=>some (Sum.inr ((5,t14.1,0,0,t15.1,0,[]),t15.2)))))))) else if (t1.1==([115,101,110,100]:Str))=true then (G_parse_parser_handle t1.2).bind (Sum.elim (fun e917=>some (Sum.inl e917)) (fun t17=>(G_parse_parser_small t17.2 0 7).bind (Sum.elim (fun e918=>some (Sum.inl e918)) (fun t18=>(G_parse_parser_service t18.2).bind (Sum.elim (fun e919=>some (Sum.inl e919)) (fun t19=>(F_parse_parser_text t19.2).bind (Sum.elim (fun e920=>some (Sum.inl e920)) (fun t20=>(F_parse_need t20.2.2).bind (Sum.elim (fun e921=>some (Sum.inl e921)) (fun t21=>some (Sum.inr ((6,t17.1,0,0,t18.1,t19.1,t20.1),t20.2)))))))))))) else some (Sum.inl (.iface 167 (.agg #[]):Value))))
theorem M_parse_parser_call {x0:S171.ty}  : LeO (G_parse_parser_call x0) (F_parse_parser_call x0):=by
 unfold G_parse_parser_call F_parse_parser_call
 repeat' first|with_reducible exact LeO.rfl|with_reducible refine M_parse_parser_handle|with_reducible refine M_parse_parser_small|with_reducible refine M_parse_parser_service|with_reducible refine LeO.ite ?_ ?_|with_reducible refine LeO.bind ?_ (fun _=>?_)|with_reducible refine LeO.elim (fun _=>?_) (fun _=>?_) _|with_reducible refine LeO.loop (fun _=>?_)
noncomputable def G_parse_Parse (x0:Str):Option (S86.ty×Int) :=
 (G_parse_parser_call (x0,false)).bind (Sum.elim (fun e91=>(recU 167 e91).bind fun n1=>(some ((0,0,0,0,0,0,[]),210))) (fun t1=>some (t1.1,0)))
theorem M_parse_Parse {x0:Str}  : LeO (G_parse_Parse x0) (F_parse_Parse x0):=by
 unfold G_parse_Parse F_parse_Parse
 repeat' first|with_reducible exact LeO.rfl|with_reducible refine M_parse_parser_call|with_reducible refine LeO.ite ?_ ?_|with_reducible refine LeO.bind ?_ (fun _=>?_)|with_reducible refine LeO.elim (fun _=>?_) (fun _=>?_) _|with_reducible refine LeO.loop (fun _=>?_)
noncomputable def G_slices_IndexFunc_api_Right_api_Right_b1 (x0:(List S56.ty)) (x1:(S56.ty→Option Bool)) (s1:Int):Option (Int⊕(Int⊕Unit)) :=
 if (decide (s1<((length x0:Nat):Int)))=true then if 0≤s1∧s1<((length x0:Nat):Int) then (x1 (getD x0 (toNat s1) S56.dflt)).bind fun t1=>(if (t1)=true then some (Sum.inr (Sum.inl s1)) else some (Sum.inl (wrap .i64 (s1+1)))) else none else some (Sum.inr (Sum.inr ()))
theorem M_slices_IndexFunc_api_Right_api_Right_b1 {x0:(List S56.ty)} {x1 x1':(S56.ty→Option Bool)} {s1:Int} (hx1:∀x,LeO (x1 x) (x1' x)):LeO (G_slices_IndexFunc_api_Right_api_Right_b1 x0 x1 s1) (F_slices_IndexFunc_api_Right_api_Right_b1 x0 x1' s1):=by
 unfold G_slices_IndexFunc_api_Right_api_Right_b1 F_slices_IndexFunc_api_Right_api_Right_b1
 repeat' first|with_reducible exact LeO.rfl|with_reducible exact hx1 _|with_reducible refine LeO.ite ?_ ?_|with_reducible refine LeO.bind ?_ (fun _=>?_)|with_reducible refine LeO.elim (fun _=>?_) (fun _=>?_) _|with_reducible refine LeO.loop (fun _=>?_)
noncomputable def G_slices_IndexFunc_api_Right_api_Right (x0:(List S56.ty)) (x1:(S56.ty→Option Bool)):Option Int :=
 (loopN 64 (G_slices_IndexFunc_api_Right_api_Right_b1 x0 x1) 0).bind (Sum.elim some (fun j11=>some (-1)))
theorem M_slices_IndexFunc_api_Right_api_Right {x0:(List S56.ty)} {x1 x1':(S56.ty→Option Bool)} (hx1:∀x,LeO (x1 x) (x1' x)):LeO (G_slices_IndexFunc_api_Right_api_Right x0 x1) (F_slices_IndexFunc_api_Right_api_Right x0 x1'):=by
 unfold G_slices_IndexFunc_api_Right_api_Right F_slices_IndexFunc_api_Right_api_Right
 repeat' first|with_reducible exact LeO.rfl|with_reducible exact hx1 _|with_reducible refine M_slices_IndexFunc_api_Right_api_Right_b1 (fun _=>?_)|with_reducible refine LeO.ite ?_ ?_|with_reducible refine LeO.bind ?_ (fun _=>?_)|with_reducible refine LeO.elim (fun _=>?_) (fun _=>?_) _|with_reducible refine LeO.loop (fun _=>?_)
noncomputable def G_right_find (x0:(List S56.ty)) (x1:Int):Option Int :=
 (G_slices_IndexFunc_api_Right_api_Right x0 (fun x=>F_right_find_1 x x1)).bind fun t1=>(some t1)
theorem M_right_find {x0:(List S56.ty)} {x1:Int}  : LeO (G_right_find x0 x1) (F_right_find x0 x1):=by
 unfold G_right_find F_right_find
 repeat' first|with_reducible exact LeO.rfl|with_reducible refine M_slices_IndexFunc_api_Right_api_Right (fun _=>?_)|with_reducible refine LeO.ite ?_ ?_|with_reducible refine LeO.bind ?_ (fun _=>?_)|with_reducible refine LeO.elim (fun _=>?_) (fun _=>?_) _|with_reducible refine LeO.loop (fun _=>?_)
noncomputable def G_right_Mint (x0:(List S56.ty)) (x1:Int) (x2:Int) (x3:Int):Option ((List S56.ty)×Int) :=
 (show Option Bool from if (x1==0)=true then some true else (F_right_gives x3).bind fun t2=>(if (!t2)=true then some true else (G_right_find x0 x1).bind fun t3=>(some (decide (t3≥0))))).bind (fun r1=>if (r1)=true then some ([],1) else if (decide (((length x0:Nat):Int)≥16))=true then some ([],161) else (F_slices_Clone_api_Right_api_Right x0).bind fun t1=>(if apOk (length t1+1) 32 then (some (t1++[(x1,x2,x3,false)],0)) else none))
theorem M_right_Mint {x0:(List S56.ty)} {x1:Int} {x2:Int} {x3:Int}  : LeO (G_right_Mint x0 x1 x2 x3) (F_right_Mint x0 x1 x2 x3):=by
 unfold G_right_Mint F_right_Mint
 repeat' first|with_reducible exact LeO.rfl|with_reducible refine M_right_find|with_reducible refine LeO.ite ?_ ?_|with_reducible refine LeO.bind ?_ (fun _=>?_)|with_reducible refine LeO.elim (fun _=>?_) (fun _=>?_) _|with_reducible refine LeO.loop (fun _=>?_)
noncomputable def G_lane_work_mint (x0:S88.ty) (x1:Int) (x2:Int):Option (Value⊕S88.ty) :=
 (F_lane_work_handle x0).bind fun t1=>((G_right_Mint t1.2.1.2.2.2.2.2.1 t1.1 x1 x2).bind fun t2=>((F_lane_need t2.2).bind (Sum.elim (fun e93=>some (Sum.inl e93)) (fun t3=>some (Sum.inr ((t1.2.1.1,t1.2.1.2.1,t1.2.1.2.2.1,t1.2.1.2.2.2.1,t1.2.1.2.2.2.2.1,t2.1,t1.2.1.2.2.2.2.2.2),t1.2.2.1,t1.2.2.2.1,t1.2.2.2.2.1,t1.2.2.2.2.2.1,t1.1,t1.2.2.2.2.2.2.2))))))
theorem M_lane_work_mint {x0:S88.ty} {x1:Int} {x2:Int}  : LeO (G_lane_work_mint x0 x1 x2) (F_lane_work_mint x0 x1 x2):=by
 unfold G_lane_work_mint F_lane_work_mint
 repeat' first|with_reducible exact LeO.rfl|with_reducible refine M_right_Mint|with_reducible refine LeO.ite ?_ ?_|with_reducible refine LeO.bind ?_ (fun _=>?_)|with_reducible refine LeO.elim (fun _=>?_) (fun _=>?_) _|with_reducible refine LeO.loop (fun _=>?_)
noncomputable def G_lane_work_open (x0:S88.ty):Option (Value⊕S88.ty) :=
 (F_roster_Open x0.1.2.2.2.2.1).bind fun t1=>((F_lane_need t1.2.2).bind (Sum.elim (fun e92=>some (Sum.inl e92)) (fun t2=>(G_lane_work_mint x0 t1.2.1 7).bind (Sum.elim (fun e93=>some (Sum.inl e93)) (fun t3=>some (Sum.inr ((t3.1.1,t3.1.2.1,t3.1.2.2.1,t3.1.2.2.2.1,t1.1,t3.1.2.2.2.2.2),t3.2.1,t1.2.1,t3.2.2.2.1,t3.2.2.2.2.1,t3.2.2.2.2.2.1,t1.2.1,t3.2.2.2.2.2.2.2)))))))
theorem M_lane_work_open {x0:S88.ty}  : LeO (G_lane_work_open x0) (F_lane_work_open x0):=by
 unfold G_lane_work_open F_lane_work_open
 repeat' first|with_reducible exact LeO.rfl|with_reducible refine M_lane_work_mint|with_reducible refine LeO.ite ?_ ?_|with_reducible refine LeO.bind ?_ (fun _=>?_)|with_reducible refine LeO.elim (fun _=>?_) (fun _=>?_) _|with_reducible refine LeO.loop (fun _=>?_)
noncomputable def G_right_Check (x0:(List S56.ty)) (x1:Int) (x2:Int):Option (Int×Int) :=
 (G_right_find x0 x1).bind fun t1=>((show Option Bool from if (decide (t1<0))=true then some true else if 0≤t1∧t1<((length x0:Nat):Int) then (if (getD x0 (toNat t1) S56.dflt).2.2.2=true then some true else (F_right_gives x2).bind fun t2=>(if (!t2)=true then some true else if 0≤t1∧t1<((length x0:Nat):Int) then (some ((bits .andNot .i64 x2 (getD x0 (toNat t1) S56.dflt).2.2.1) != 0)) else none)) else none).bind (fun r1=>if (r1)=true then some (0,160) else if 0≤t1∧t1<((length x0:Nat):Int) then (some ((getD x0 (toNat t1) S56.dflt).2.1,0)) else none))
theorem M_right_Check {x0:(List S56.ty)} {x1:Int} {x2:Int}  : LeO (G_right_Check x0 x1 x2) (F_right_Check x0 x1 x2):=by
 unfold G_right_Check F_right_Check
 repeat' first|with_reducible exact LeO.rfl|with_reducible refine M_right_find|with_reducible refine LeO.ite ?_ ?_|with_reducible refine LeO.bind ?_ (fun _=>?_)|with_reducible refine LeO.elim (fun _=>?_) (fun _=>?_) _|with_reducible refine LeO.loop (fun _=>?_)
noncomputable def G_lane_work_may (x0:S88.ty) (x1:Int):Option (Value⊕S88.ty) :=
 (G_right_Check x0.1.2.2.2.2.2.1 x0.2.1.2.1 x1).bind fun t1=>((F_lane_need t1.2).bind (Sum.elim (fun e92=>some (Sum.inl e92)) (fun t2=>some (Sum.inr (x0.1,x0.2.1,t1.1,x0.2.2.2)))))
theorem M_lane_work_may {x0:S88.ty} {x1:Int}  : LeO (G_lane_work_may x0 x1) (F_lane_work_may x0 x1):=by
 unfold G_lane_work_may F_lane_work_may
 repeat' first|with_reducible exact LeO.rfl|with_reducible refine M_right_Check|with_reducible refine LeO.ite ?_ ?_|with_reducible refine LeO.bind ?_ (fun _=>?_)|with_reducible refine LeO.elim (fun _=>?_) (fun _=>?_) _|with_reducible refine LeO.loop (fun _=>?_)
noncomputable def G_slices_IndexFunc_api_Session_api_Session_b1 (x0:(List S120.ty)) (x1:(S120.ty→Option Bool)) (s1:Int):Option (Int⊕(Int⊕Unit)) :=
 if (decide (s1<((length x0:Nat):Int)))=true then if 0≤s1∧s1<((length x0:Nat):Int) then (x1 (getD x0 (toNat s1) S120.dflt)).bind fun t1=>(if (t1)=true then some (Sum.inr (Sum.inl s1)) else some (Sum.inl (wrap .i64 (s1+1)))) else none else some (Sum.inr (Sum.inr ()))
theorem M_slices_IndexFunc_api_Session_api_Session_b1 {x0:(List S120.ty)} {x1 x1':(S120.ty→Option Bool)} {s1:Int} (hx1:∀x,LeO (x1 x) (x1' x)):LeO (G_slices_IndexFunc_api_Session_api_Session_b1 x0 x1 s1) (F_slices_IndexFunc_api_Session_api_Session_b1 x0 x1' s1):=by
 unfold G_slices_IndexFunc_api_Session_api_Session_b1 F_slices_IndexFunc_api_Session_api_Session_b1
 repeat' first|with_reducible exact LeO.rfl|with_reducible exact hx1 _|with_reducible refine LeO.ite ?_ ?_|with_reducible refine LeO.bind ?_ (fun _=>?_)|with_reducible refine LeO.elim (fun _=>?_) (fun _=>?_) _|with_reducible refine LeO.loop (fun _=>?_)
noncomputable def G_slices_IndexFunc_api_Session_api_Session (x0:(List S120.ty)) (x1:(S120.ty→Option Bool)):Option Int :=
 (loopN 64 (G_slices_IndexFunc_api_Session_api_Session_b1 x0 x1) 0).bind (Sum.elim some (fun j11=>some (-1)))
theorem M_slices_IndexFunc_api_Session_api_Session {x0:(List S120.ty)} {x1 x1':(S120.ty→Option Bool)} (hx1:∀x,LeO (x1 x) (x1' x)):LeO (G_slices_IndexFunc_api_Session_api_Session x0 x1) (F_slices_IndexFunc_api_Session_api_Session x0 x1'):=by
 unfold G_slices_IndexFunc_api_Session_api_Session F_slices_IndexFunc_api_Session_api_Session
 repeat' first|with_reducible exact LeO.rfl|with_reducible exact hx1 _|with_reducible refine M_slices_IndexFunc_api_Session_api_Session_b1 (fun _=>?_)|with_reducible refine LeO.ite ?_ ?_|with_reducible refine LeO.bind ?_ (fun _=>?_)|with_reducible refine LeO.elim (fun _=>?_) (fun _=>?_) _|with_reducible refine LeO.loop (fun _=>?_)
noncomputable def G_roster_find (x0:S26.ty) (x1:Int):Option Int :=
 (G_slices_IndexFunc_api_Session_api_Session x0.2 (fun x=>F_roster_find_1 x x1)).bind fun t1=>(some t1)
theorem M_roster_find {x0:S26.ty} {x1:Int}  : LeO (G_roster_find x0 x1) (F_roster_find x0 x1):=by
 unfold G_roster_find F_roster_find
 repeat' first|with_reducible exact LeO.rfl|with_reducible refine M_slices_IndexFunc_api_Session_api_Session (fun _=>?_)|with_reducible refine LeO.ite ?_ ?_|with_reducible refine LeO.bind ?_ (fun _=>?_)|with_reducible refine LeO.elim (fun _=>?_) (fun _=>?_) _|with_reducible refine LeO.loop (fun _=>?_)
noncomputable def G_roster_Close (x0:S26.ty) (x1:Int):Option (S26.ty×Int) :=
 (G_roster_find x0 x1).bind fun t1=>(if (decide (t1<0))=true then some ((0,[]),162) else (F_roster_copied x0).bind fun t2=>((F_slices_Delete_api_Session_api_Session t2.2 t1 (wrap .i64 (t1+1))).bind fun t3=>(some ((t2.1,t3),0))))
theorem M_roster_Close {x0:S26.ty} {x1:Int}  : LeO (G_roster_Close x0 x1) (F_roster_Close x0 x1):=by
 unfold G_roster_Close F_roster_Close
 repeat' first|with_reducible exact LeO.rfl|with_reducible refine M_roster_find|with_reducible refine LeO.ite ?_ ?_|with_reducible refine LeO.bind ?_ (fun _=>?_)|with_reducible refine LeO.elim (fun _=>?_) (fun _=>?_) _|with_reducible refine LeO.loop (fun _=>?_)
noncomputable def G_slices_IndexFunc_api_Member_api_Member_b1 (x0:(List S43.ty)) (x1:(S43.ty→Option Bool)) (s1:Int):Option (Int⊕(Int⊕Unit)) :=
 if (decide (s1<((length x0:Nat):Int)))=true then if 0≤s1∧s1<((length x0:Nat):Int) then (x1 (getD x0 (toNat s1) S43.dflt)).bind fun t1=>(if (t1)=true then some (Sum.inr (Sum.inl s1)) else some (Sum.inl (wrap .i64 (s1+1)))) else none else some (Sum.inr (Sum.inr ()))
theorem M_slices_IndexFunc_api_Member_api_Member_b1 {x0:(List S43.ty)} {x1 x1':(S43.ty→Option Bool)} {s1:Int} (hx1:∀x,LeO (x1 x) (x1' x)):LeO (G_slices_IndexFunc_api_Member_api_Member_b1 x0 x1 s1) (F_slices_IndexFunc_api_Member_api_Member_b1 x0 x1' s1):=by
 unfold G_slices_IndexFunc_api_Member_api_Member_b1 F_slices_IndexFunc_api_Member_api_Member_b1
 repeat' first|with_reducible exact LeO.rfl|with_reducible exact hx1 _|with_reducible refine LeO.ite ?_ ?_|with_reducible refine LeO.bind ?_ (fun _=>?_)|with_reducible refine LeO.elim (fun _=>?_) (fun _=>?_) _|with_reducible refine LeO.loop (fun _=>?_)
noncomputable def G_slices_IndexFunc_api_Member_api_Member (x0:(List S43.ty)) (x1:(S43.ty→Option Bool)):Option Int :=
 (loopN 64 (G_slices_IndexFunc_api_Member_api_Member_b1 x0 x1) 0).bind (Sum.elim some (fun j11=>some (-1)))
theorem M_slices_IndexFunc_api_Member_api_Member {x0:(List S43.ty)} {x1 x1':(S43.ty→Option Bool)} (hx1:∀x,LeO (x1 x) (x1' x)):LeO (G_slices_IndexFunc_api_Member_api_Member x0 x1) (F_slices_IndexFunc_api_Member_api_Member x0 x1'):=by
 unfold G_slices_IndexFunc_api_Member_api_Member F_slices_IndexFunc_api_Member_api_Member
 repeat' first|with_reducible exact LeO.rfl|with_reducible exact hx1 _|with_reducible refine M_slices_IndexFunc_api_Member_api_Member_b1 (fun _=>?_)|with_reducible refine LeO.ite ?_ ?_|with_reducible refine LeO.bind ?_ (fun _=>?_)|with_reducible refine LeO.elim (fun _=>?_) (fun _=>?_) _|with_reducible refine LeO.loop (fun _=>?_)
noncomputable def G_slices_DeleteFunc_api_Member_api_Member_b1 (x1:(S43.ty→Option Bool)) (s1:(Int×Int×(List S43.ty))):Option ((Int×Int×(List S43.ty))⊕(Int×(List S43.ty))) :=
 if (decide (s1.2.1<((length s1.2.2:Nat):Int)))=true then if 0≤s1.2.1∧s1.2.1<((length s1.2.2:Nat):Int) then (x1 (getD s1.2.2 (toNat s1.2.1) S43.dflt)).bind fun t2=>(if (!t2)=true then if 0≤s1.1∧s1.1<((length s1.2.2:Nat):Int) then (some (Sum.inl (wrap .i64 (s1.1+1),wrap .i64 (s1.2.1+1),List.set s1.2.2 (toNat s1.1) (getD s1.2.2 (toNat s1.2.1) S43.dflt)))) else none else some (Sum.inl (s1.1,wrap .i64 (s1.2.1+1),s1.2.2))) else none else some (Sum.inr (s1.1,s1.2.2))
theorem M_slices_DeleteFunc_api_Member_api_Member_b1 {x1 x1':(S43.ty→Option Bool)} {s1:(Int×Int×(List S43.ty))} (hx1:∀x,LeO (x1 x) (x1' x)):LeO (G_slices_DeleteFunc_api_Member_api_Member_b1 x1 s1) (F_slices_DeleteFunc_api_Member_api_Member_b1 x1' s1):=by
 unfold G_slices_DeleteFunc_api_Member_api_Member_b1 F_slices_DeleteFunc_api_Member_api_Member_b1
 repeat' first|with_reducible exact LeO.rfl|with_reducible exact hx1 _|with_reducible refine LeO.ite ?_ ?_|with_reducible refine LeO.bind ?_ (fun _=>?_)|with_reducible refine LeO.elim (fun _=>?_) (fun _=>?_) _|with_reducible refine LeO.loop (fun _=>?_)
noncomputable def G_slices_DeleteFunc_api_Member_api_Member (x0:(List S43.ty)) (x1:(S43.ty→Option Bool)):Option (List S43.ty) :=
 (G_slices_IndexFunc_api_Member_api_Member x0 x1).bind fun t1=>(if (t1==(-1))=true then some x0 else (loopN 64 (G_slices_DeleteFunc_api_Member_api_Member_b1 x1) (t1,wrap .i64 (t1+1),x0)).bind (fun r1=>if ((0:Int)≤r1.1∧toNat r1.1≤length r1.2∧length r1.2≤length r1.2) then (if (toNat r1.1)+(length r1.2-toNat r1.1)≤length r1.2 then (if ((0:Int)≤r1.1∧0≤toNat r1.1∧toNat r1.1≤length (take (toNat r1.1) r1.2++(replicate (length r1.2-toNat r1.1) S43.dflt++drop ((toNat r1.1)+(length r1.2-toNat r1.1)) r1.2))) then (if (toNat r1.1-0)≤length (take (toNat r1.1) r1.2++(replicate (length r1.2-toNat r1.1) S43.dflt++drop ((toNat r1.1)+(length r1.2-toNat r1.1)) r1.2)) then some (take (toNat r1.1-0) (take (toNat r1.1) r1.2++(replicate (length r1.2-toNat r1.1) S43.dflt++drop ((toNat r1.1)+(length r1.2-toNat r1.1)) r1.2))) else none) else none) else none) else none))
theorem M_slices_DeleteFunc_api_Member_api_Member {x0:(List S43.ty)} {x1 x1':(S43.ty→Option Bool)} (hx1:∀x,LeO (x1 x) (x1' x)):LeO (G_slices_DeleteFunc_api_Member_api_Member x0 x1) (F_slices_DeleteFunc_api_Member_api_Member x0 x1'):=by
 unfold G_slices_DeleteFunc_api_Member_api_Member F_slices_DeleteFunc_api_Member_api_Member
 repeat' first|with_reducible exact LeO.rfl|with_reducible exact hx1 _|with_reducible refine M_slices_IndexFunc_api_Member_api_Member (fun _=>?_)|with_reducible refine M_slices_DeleteFunc_api_Member_api_Member_b1 (fun _=>?_)|with_reducible refine LeO.ite ?_ ?_|with_reducible refine LeO.bind ?_ (fun _=>?_)|with_reducible refine LeO.elim (fun _=>?_) (fun _=>?_) _|with_reducible refine LeO.loop (fun _=>?_)
noncomputable def G_slices_IndexFunc_api_Entry_api_Entry_b1 (x0:(List S58.ty)) (x1:(S58.ty→Option Bool)) (s1:Int):Option (Int⊕(Int⊕Unit)) :=
 if (decide (s1<((length x0:Nat):Int)))=true then if 0≤s1∧s1<((length x0:Nat):Int) then (x1 (getD x0 (toNat s1) S58.dflt)).bind fun t1=>(if (t1)=true then some (Sum.inr (Sum.inl s1)) else some (Sum.inl (wrap .i64 (s1+1)))) else none else some (Sum.inr (Sum.inr ()))
theorem M_slices_IndexFunc_api_Entry_api_Entry_b1 {x0:(List S58.ty)} {x1 x1':(S58.ty→Option Bool)} {s1:Int} (hx1:∀x,LeO (x1 x) (x1' x)):LeO (G_slices_IndexFunc_api_Entry_api_Entry_b1 x0 x1 s1) (F_slices_IndexFunc_api_Entry_api_Entry_b1 x0 x1' s1):=by
 unfold G_slices_IndexFunc_api_Entry_api_Entry_b1 F_slices_IndexFunc_api_Entry_api_Entry_b1
 repeat' first|with_reducible exact LeO.rfl|with_reducible exact hx1 _|with_reducible refine LeO.ite ?_ ?_|with_reducible refine LeO.bind ?_ (fun _=>?_)|with_reducible refine LeO.elim (fun _=>?_) (fun _=>?_) _|with_reducible refine LeO.loop (fun _=>?_)
noncomputable def G_slices_IndexFunc_api_Entry_api_Entry (x0:(List S58.ty)) (x1:(S58.ty→Option Bool)):Option Int :=
 (loopN 64 (G_slices_IndexFunc_api_Entry_api_Entry_b1 x0 x1) 0).bind (Sum.elim some (fun j11=>some (-1)))
theorem M_slices_IndexFunc_api_Entry_api_Entry {x0:(List S58.ty)} {x1 x1':(S58.ty→Option Bool)} (hx1:∀x,LeO (x1 x) (x1' x)):LeO (G_slices_IndexFunc_api_Entry_api_Entry x0 x1) (F_slices_IndexFunc_api_Entry_api_Entry x0 x1'):=by
 unfold G_slices_IndexFunc_api_Entry_api_Entry F_slices_IndexFunc_api_Entry_api_Entry
 repeat' first|with_reducible exact LeO.rfl|with_reducible exact hx1 _|with_reducible refine M_slices_IndexFunc_api_Entry_api_Entry_b1 (fun _=>?_)|with_reducible refine LeO.ite ?_ ?_|with_reducible refine LeO.bind ?_ (fun _=>?_)|with_reducible refine LeO.elim (fun _=>?_) (fun _=>?_) _|with_reducible refine LeO.loop (fun _=>?_)
noncomputable def G_lane_work_cancel (x0:S88.ty) (x1:Int) (x2:Int):Option (Bool×S88.ty) :=
 (G_slices_IndexFunc_api_Entry_api_Entry x0.1.2.2.2.2.2.2.2.1 (fun x=>F_lane_work_cancel_1 x x1 x2 x0)).bind fun t1=>(if (decide (t1<0))=true then some (false,x0) else (F_slices_Delete_api_Entry_api_Entry x0.1.2.2.2.2.2.2.2.1 t1 (wrap .i64 (t1+1))).bind fun t2=>(some (true,(x0.1.1,x0.1.2.1,x0.1.2.2.1,x0.1.2.2.2.1,x0.1.2.2.2.2.1,x0.1.2.2.2.2.2.1,x0.1.2.2.2.2.2.2.1,t2,x0.1.2.2.2.2.2.2.2.2),x0.2)))
theorem M_lane_work_cancel {x0:S88.ty} {x1:Int} {x2:Int}  : LeO (G_lane_work_cancel x0 x1 x2) (F_lane_work_cancel x0 x1 x2):=by
 unfold G_lane_work_cancel F_lane_work_cancel
 repeat' first|with_reducible exact LeO.rfl|with_reducible refine M_slices_IndexFunc_api_Entry_api_Entry (fun _=>?_)|with_reducible refine LeO.ite ?_ ?_|with_reducible refine LeO.bind ?_ (fun _=>?_)|with_reducible refine LeO.elim (fun _=>?_) (fun _=>?_) _|with_reducible refine LeO.loop (fun _=>?_)
noncomputable def G_lane_work_control (x0:S88.ty) (x1:Int) (x2:Int) (x3:Int):Option S88.ty :=
 (G_lane_work_cancel x0 x2 x3).bind fun t1=>(if (!t1.1)=true then if apOk (length t1.2.1.2.2.2.2.2.2.2.1+1) 56 then (some ((t1.2.1.1,t1.2.1.2.1,t1.2.1.2.2.1,t1.2.1.2.2.2.1,t1.2.1.2.2.2.2.1,t1.2.1.2.2.2.2.2.1,t1.2.1.2.2.2.2.2.2.1,t1.2.1.2.2.2.2.2.2.2.1++[(x1,2,x3,t1.2.2.2.1,0,[])],t1.2.1.2.2.2.2.2.2.2.2),t1.2.2)) else none else some t1.2)
theorem M_lane_work_control {x0:S88.ty} {x1:Int} {x2:Int} {x3:Int}  : LeO (G_lane_work_control x0 x1 x2 x3) (F_lane_work_control x0 x1 x2 x3):=by
 unfold G_lane_work_control F_lane_work_control
 repeat' first|with_reducible exact LeO.rfl|with_reducible refine M_lane_work_cancel|with_reducible refine LeO.ite ?_ ?_|with_reducible refine LeO.bind ?_ (fun _=>?_)|with_reducible refine LeO.elim (fun _=>?_) (fun _=>?_) _|with_reducible refine LeO.loop (fun _=>?_)
noncomputable def G_lane_work_depart (x0:S88.ty) (x1:Int):Option S88.ty :=
 (F_lane_work_member x0 x1).bind fun t1=>((G_slices_DeleteFunc_api_Member_api_Member x0.1.2.2.2.2.2.2.1 (fun x=>F_lane_work_depart_1 x t1)).bind fun t2=>((G_lane_work_control ((x0.1.1,x0.1.2.1,x0.1.2.2.1,x0.1.2.2.2.1,x0.1.2.2.2.2.1,x0.1.2.2.2.2.2.1,t2,x0.1.2.2.2.2.2.2.2),x0.2) 3 2 x1).bind fun t3=>(some t3)))
theorem M_lane_work_depart {x0:S88.ty} {x1:Int}  : LeO (G_lane_work_depart x0 x1) (F_lane_work_depart x0 x1):=by
 unfold G_lane_work_depart F_lane_work_depart
 repeat' first|with_reducible exact LeO.rfl|with_reducible refine M_slices_DeleteFunc_api_Member_api_Member (fun _=>?_)|with_reducible refine M_lane_work_control|with_reducible refine LeO.ite ?_ ?_|with_reducible refine LeO.bind ?_ (fun _=>?_)|with_reducible refine LeO.elim (fun _=>?_) (fun _=>?_) _|with_reducible refine LeO.loop (fun _=>?_)
noncomputable def G_lane_work_close_b1 (t4:(List S43.ty)) (s1:(Int×((Int×(Int×((List Int)×(Int×(S26.ty×((List S56.ty)×(Unit×(Unit×(Unit×(Int×((List S43.ty)×((List S115.ty)×(S33.ty×((List Int)×(Int×(List S53.ty))))))))))))))))×(S86.ty×S45.ty))×(List S43.ty)×(List S58.ty)×(List S58.ty))):Option ((Int×((Int×(Int×((List Int)×(Int×(S26.ty×((List S56.ty)×(Unit×(Unit×(Unit×(Int×((List S43.ty)×((List S115.ty)×(S33.ty×((List Int)×(Int×(List S53.ty))))))))))))))))×(S86.ty×S45.ty))×(List S43.ty)×(List S58.ty)×(List S58.ty))⊕(((Int×(Int×((List Int)×(Int×(S26.ty×((List S56.ty)×(Unit×(Unit×(Unit×(Int×((List S43.ty)×((List S115.ty)×(S33.ty×((List Int)×(Int×(List S53.ty))))))))))))))))×(S86.ty×S45.ty))×(List S43.ty)×(List S58.ty)×(List S58.ty))) :=
 if (decide (s1.1<((length t4:Nat):Int)))=true then if 0≤s1.1∧s1.1<((length t4:Nat):Int) then (F_lane_work_member ((s1.2.1.1.1,s1.2.1.1.2.1,s1.2.1.1.2.2.1,s1.2.1.1.2.2.2.1,s1.2.1.1.2.2.2.2.1,s1.2.1.1.2.2.2.2.2.1,s1.2.2.1,s1.2.2.2.1,s1.2.2.2.2,s1.2.1.1.2.2.2.2.2.2.2.2.2),s1.2.1.2) (getD t4 (toNat s1.1) S43.dflt).1).bind fun t7=>(if (Sh.eqb S43 (getD t4 (toNat s1.1) S43.dflt) t7)=true then (G_lane_work_depart ((s1.2.1.1.1,s1.2.1.1.2.1,s1.2.1.1.2.2.1,s1.2.1.1.2.2.2.1,s1.2.1.1.2.2.2.2.1,s1.2.1.1.2.2.2.2.2.1,s1.2.2.1,s1.2.2.2.1,s1.2.2.2.2,s1.2.1.1.2.2.2.2.2.2.2.2.2),s1.2.1.2) (getD t4 (toNat s1.1) S43.dflt).1).bind fun t8=>(some (Sum.inl (wrap .i64 (s1.1+1),((t8.1.1,t8.1.2.1,t8.1.2.2.1,t8.1.2.2.2.1,t8.1.2.2.2.2.1,t8.1.2.2.2.2.2.1,(),(),(),t8.1.2.2.2.2.2.2.2.2.2),t8.2),t8.1.2.2.2.2.2.2.1,t8.1.2.2.2.2.2.2.2.1,t8.1.2.2.2.2.2.2.2.2.1))) else some (Sum.inl (wrap .i64 (s1.1+1),((s1.2.1.1.1,s1.2.1.1.2.1,s1.2.1.1.2.2.1,s1.2.1.1.2.2.2.1,s1.2.1.1.2.2.2.2.1,s1.2.1.1.2.2.2.2.2.1,(),(),(),s1.2.1.1.2.2.2.2.2.2.2.2.2),s1.2.1.2),s1.2.2.1,s1.2.2.2.1,s1.2.2.2.2))) else none else some (Sum.inr (((s1.2.1.1.1,s1.2.1.1.2.1,s1.2.1.1.2.2.1,s1.2.1.1.2.2.2.1,s1.2.1.1.2.2.2.2.1,s1.2.1.1.2.2.2.2.2.1,(),(),(),s1.2.1.1.2.2.2.2.2.2.2.2.2),s1.2.1.2),s1.2.2.1,s1.2.2.2.1,s1.2.2.2.2))
theorem M_lane_work_close_b1 {t4:(List S43.ty)} {s1:(Int×((Int×(Int×((List Int)×(Int×(S26.ty×((List S56.ty)×(Unit×(Unit×(Unit×(Int×((List S43.ty)×((List S115.ty)×(S33.ty×((List Int)×(Int×(List S53.ty))))))))))))))))×(S86.ty×S45.ty))×(List S43.ty)×(List S58.ty)×(List S58.ty))}  : LeO (G_lane_work_close_b1 t4 s1) (F_lane_work_close_b1 t4 s1):=by
 unfold G_lane_work_close_b1 F_lane_work_close_b1
 repeat' first|with_reducible exact LeO.rfl|with_reducible refine M_lane_work_depart|with_reducible refine LeO.ite ?_ ?_|with_reducible refine LeO.bind ?_ (fun _=>?_)|with_reducible refine LeO.elim (fun _=>?_) (fun _=>?_) _|with_reducible refine LeO.loop (fun _=>?_)
noncomputable def G_slices_DeleteFunc_api_Right_api_Right_b1 (x1:(S56.ty→Option Bool)) (s1:(Int×Int×(List S56.ty))):Option ((Int×Int×(List S56.ty))⊕(Int×(List S56.ty))) :=
 if (decide (s1.2.1<((length s1.2.2:Nat):Int)))=true then if 0≤s1.2.1∧s1.2.1<((length s1.2.2:Nat):Int) then (x1 (getD s1.2.2 (toNat s1.2.1) S56.dflt)).bind fun t2=>(if (!t2)=true then if 0≤s1.1∧s1.1<((length s1.2.2:Nat):Int) then (some (Sum.inl (wrap .i64 (s1.1+1),wrap .i64 (s1.2.1+1),List.set s1.2.2 (toNat s1.1) (getD s1.2.2 (toNat s1.2.1) S56.dflt)))) else none else some (Sum.inl (s1.1,wrap .i64 (s1.2.1+1),s1.2.2))) else none else some (Sum.inr (s1.1,s1.2.2))
theorem M_slices_DeleteFunc_api_Right_api_Right_b1 {x1 x1':(S56.ty→Option Bool)} {s1:(Int×Int×(List S56.ty))} (hx1:∀x,LeO (x1 x) (x1' x)):LeO (G_slices_DeleteFunc_api_Right_api_Right_b1 x1 s1) (F_slices_DeleteFunc_api_Right_api_Right_b1 x1' s1):=by
 unfold G_slices_DeleteFunc_api_Right_api_Right_b1 F_slices_DeleteFunc_api_Right_api_Right_b1
 repeat' first|with_reducible exact LeO.rfl|with_reducible exact hx1 _|with_reducible refine LeO.ite ?_ ?_|with_reducible refine LeO.bind ?_ (fun _=>?_)|with_reducible refine LeO.elim (fun _=>?_) (fun _=>?_) _|with_reducible refine LeO.loop (fun _=>?_)
noncomputable def G_slices_DeleteFunc_api_Right_api_Right (x0:(List S56.ty)) (x1:(S56.ty→Option Bool)):Option (List S56.ty) :=
 (G_slices_IndexFunc_api_Right_api_Right x0 x1).bind fun t1=>(if (t1==(-1))=true then some x0 else (loopN 64 (G_slices_DeleteFunc_api_Right_api_Right_b1 x1) (t1,wrap .i64 (t1+1),x0)).bind (fun r1=>if ((0:Int)≤r1.1∧toNat r1.1≤length r1.2∧length r1.2≤length r1.2) then (if (toNat r1.1)+(length r1.2-toNat r1.1)≤length r1.2 then (if ((0:Int)≤r1.1∧0≤toNat r1.1∧toNat r1.1≤length (take (toNat r1.1) r1.2++(replicate (length r1.2-toNat r1.1) S56.dflt++drop ((toNat r1.1)+(length r1.2-toNat r1.1)) r1.2))) then (if (toNat r1.1-0)≤length (take (toNat r1.1) r1.2++(replicate (length r1.2-toNat r1.1) S56.dflt++drop ((toNat r1.1)+(length r1.2-toNat r1.1)) r1.2)) then some (take (toNat r1.1-0) (take (toNat r1.1) r1.2++(replicate (length r1.2-toNat r1.1) S56.dflt++drop ((toNat r1.1)+(length r1.2-toNat r1.1)) r1.2))) else none) else none) else none) else none))
theorem M_slices_DeleteFunc_api_Right_api_Right {x0:(List S56.ty)} {x1 x1':(S56.ty→Option Bool)} (hx1:∀x,LeO (x1 x) (x1' x)):LeO (G_slices_DeleteFunc_api_Right_api_Right x0 x1) (F_slices_DeleteFunc_api_Right_api_Right x0 x1'):=by
 unfold G_slices_DeleteFunc_api_Right_api_Right F_slices_DeleteFunc_api_Right_api_Right
 repeat' first|with_reducible exact LeO.rfl|with_reducible exact hx1 _|with_reducible refine M_slices_IndexFunc_api_Right_api_Right (fun _=>?_)|with_reducible refine M_slices_DeleteFunc_api_Right_api_Right_b1 (fun _=>?_)|with_reducible refine LeO.ite ?_ ?_|with_reducible refine LeO.bind ?_ (fun _=>?_)|with_reducible refine LeO.elim (fun _=>?_) (fun _=>?_) _|with_reducible refine LeO.loop (fun _=>?_)
noncomputable def G_right_Drop (x0:(List S56.ty)) (x1:Int):Option (List S56.ty) :=
 (F_slices_Clone_api_Right_api_Right x0).bind fun t1=>((G_slices_DeleteFunc_api_Right_api_Right t1 (fun x=>F_right_Drop_1 x x1)).bind fun t2=>(some t2))
theorem M_right_Drop {x0:(List S56.ty)} {x1:Int}  : LeO (G_right_Drop x0 x1) (F_right_Drop x0 x1):=by
 unfold G_right_Drop F_right_Drop
 repeat' first|with_reducible exact LeO.rfl|with_reducible refine M_slices_DeleteFunc_api_Right_api_Right (fun _=>?_)|with_reducible refine LeO.ite ?_ ?_|with_reducible refine LeO.bind ?_ (fun _=>?_)|with_reducible refine LeO.elim (fun _=>?_) (fun _=>?_) _|with_reducible refine LeO.loop (fun _=>?_)
noncomputable def G_slices_DeleteFunc_api_Entry_api_Entry_b1 (x1:(S58.ty→Option Bool)) (s1:(Int×Int×(List S58.ty))):Option ((Int×Int×(List S58.ty))⊕(Int×(List S58.ty))) :=
 if (decide (s1.2.1<((length s1.2.2:Nat):Int)))=true then if 0≤s1.2.1∧s1.2.1<((length s1.2.2:Nat):Int) then (x1 (getD s1.2.2 (toNat s1.2.1) S58.dflt)).bind fun t2=>(if (!t2)=true then if 0≤s1.1∧s1.1<((length s1.2.2:Nat):Int) then (some (Sum.inl (wrap .i64 (s1.1+1),wrap .i64 (s1.2.1+1),List.set s1.2.2 (toNat s1.1) (getD s1.2.2 (toNat s1.2.1) S58.dflt)))) else none else some (Sum.inl (s1.1,wrap .i64 (s1.2.1+1),s1.2.2))) else none else some (Sum.inr (s1.1,s1.2.2))
theorem M_slices_DeleteFunc_api_Entry_api_Entry_b1 {x1 x1':(S58.ty→Option Bool)} {s1:(Int×Int×(List S58.ty))} (hx1:∀x,LeO (x1 x) (x1' x)):LeO (G_slices_DeleteFunc_api_Entry_api_Entry_b1 x1 s1) (F_slices_DeleteFunc_api_Entry_api_Entry_b1 x1' s1):=by
 unfold G_slices_DeleteFunc_api_Entry_api_Entry_b1 F_slices_DeleteFunc_api_Entry_api_Entry_b1
 repeat' first|with_reducible exact LeO.rfl|with_reducible exact hx1 _|with_reducible refine LeO.ite ?_ ?_|with_reducible refine LeO.bind ?_ (fun _=>?_)|with_reducible refine LeO.elim (fun _=>?_) (fun _=>?_) _|with_reducible refine LeO.loop (fun _=>?_)
noncomputable def G_slices_DeleteFunc_api_Entry_api_Entry (x0:(List S58.ty)) (x1:(S58.ty→Option Bool)):Option (List S58.ty) :=
 (G_slices_IndexFunc_api_Entry_api_Entry x0 x1).bind fun t1=>(if (t1==(-1))=true then some x0 else (loopN 64 (G_slices_DeleteFunc_api_Entry_api_Entry_b1 x1) (t1,wrap .i64 (t1+1),x0)).bind (fun r1=>if ((0:Int)≤r1.1∧toNat r1.1≤length r1.2∧length r1.2≤length r1.2) then (if (toNat r1.1)+(length r1.2-toNat r1.1)≤length r1.2 then (if ((0:Int)≤r1.1∧0≤toNat r1.1∧toNat r1.1≤length (take (toNat r1.1) r1.2++(replicate (length r1.2-toNat r1.1) S58.dflt++drop ((toNat r1.1)+(length r1.2-toNat r1.1)) r1.2))) then (if (toNat r1.1-0)≤length (take (toNat r1.1) r1.2++(replicate (length r1.2-toNat r1.1) S58.dflt++drop ((toNat r1.1)+(length r1.2-toNat r1.1)) r1.2)) then some (take (toNat r1.1-0) (take (toNat r1.1) r1.2++(replicate (length r1.2-toNat r1.1) S58.dflt++drop ((toNat r1.1)+(length r1.2-toNat r1.1)) r1.2))) else none) else none) else none) else none))
theorem M_slices_DeleteFunc_api_Entry_api_Entry {x0:(List S58.ty)} {x1 x1':(S58.ty→Option Bool)} (hx1:∀x,LeO (x1 x) (x1' x)):LeO (G_slices_DeleteFunc_api_Entry_api_Entry x0 x1) (F_slices_DeleteFunc_api_Entry_api_Entry x0 x1'):=by
 unfold G_slices_DeleteFunc_api_Entry_api_Entry F_slices_DeleteFunc_api_Entry_api_Entry
 repeat' first|with_reducible exact LeO.rfl|with_reducible exact hx1 _|with_reducible refine M_slices_IndexFunc_api_Entry_api_Entry (fun _=>?_)|with_reducible refine M_slices_DeleteFunc_api_Entry_api_Entry_b1 (fun _=>?_)|with_reducible refine LeO.ite ?_ ?_|with_reducible refine LeO.bind ?_ (fun _=>?_)|with_reducible refine LeO.elim (fun _=>?_) (fun _=>?_) _|with_reducible refine LeO.loop (fun _=>?_)
noncomputable def G_lane_work_close (x0:S88.ty):Option (Value⊕S88.ty) :=
 (G_lane_work_may x0 1).bind (Sum.elim (fun e91=>some (Sum.inl e91)) (fun t1=>(G_roster_Close t1.1.2.2.2.2.1 t1.2.2.1).bind fun t2=>((F_lane_need t2.2).bind (Sum.elim (fun e93=>some (Sum.inl e93)) (fun t3=>(F_slices_Clone_api_Member_api_Member t1.1.2.2.2.2.2.2.1).bind fun t4=>((loopN 64 (G_lane_work_close_b1 t4) (0,((t1.1.1,t1.1.2.1,t1.1.2.2.1,t1.1.2.2.2.1,t1.1.2.2.2.2.1,t1.1.2.2.2.2.2.1,(),(),(),t1.1.2.2.2.2.2.2.2.2.2),t1.2),t1.1.2.2.2.2.2.2.1,t1.1.2.2.2.2.2.2.2.1,t1.1.2.2.2.2.2.2.2.2.1)).bind (fun r1=>(G_right_Drop r1.1.1.2.2.2.2.2.1 r1.1.2.2.1).bind fun t5=>((G_slices_DeleteFunc_api_Entry_api_Entry r1.2.2.2 (fun x=>F_lane_work_close_1 x ((r1.1.1.1,r1.1.1.2.1,r1.1.1.2.2.1,r1.1.1.2.2.2.1,t2.1,t5,r1.2.1,r1.2.2.1,(),r1.1.1.2.2.2.2.2.2.2.2.2),r1.1.2))).bind fun t6=>(some (Sum.inr ((r1.1.1.1,r1.1.1.2.1,r1.1.1.2.2.1,r1.1.1.2.2.2.1,t2.1,t5,r1.2.1,r1.2.2.1,t6,r1.1.1.2.2.2.2.2.2.2.2.2),r1.1.2)))))))))))
theorem M_lane_work_close {x0:S88.ty}  : LeO (G_lane_work_close x0) (F_lane_work_close x0):=by
 unfold G_lane_work_close F_lane_work_close
 repeat' first|with_reducible exact LeO.rfl|with_reducible refine M_lane_work_may|with_reducible refine M_roster_Close|with_reducible refine M_lane_work_close_b1|with_reducible refine M_right_Drop|with_reducible refine M_slices_DeleteFunc_api_Entry_api_Entry (fun _=>?_)|with_reducible refine LeO.ite ?_ ?_|with_reducible refine LeO.bind ?_ (fun _=>?_)|with_reducible refine LeO.elim (fun _=>?_) (fun _=>?_) _|with_reducible refine LeO.loop (fun _=>?_)
noncomputable def G_lane_work_grant (x0:S88.ty):Option (Value⊕S88.ty) :=
 (G_lane_work_may x0 1).bind (Sum.elim (fun e91=>some (Sum.inl e91)) (fun t1=>(G_lane_work_mint t1 t1.2.2.1 t1.2.1.2.2.2.1).bind (Sum.elim (fun e92=>some (Sum.inl e92)) (fun t2=>some (Sum.inr t2)))))
theorem M_lane_work_grant {x0:S88.ty}  : LeO (G_lane_work_grant x0) (F_lane_work_grant x0):=by
 unfold G_lane_work_grant F_lane_work_grant
 repeat' first|with_reducible exact LeO.rfl|with_reducible refine M_lane_work_may|with_reducible refine M_lane_work_mint|with_reducible refine LeO.ite ?_ ?_|with_reducible refine LeO.bind ?_ (fun _=>?_)|with_reducible refine LeO.elim (fun _=>?_) (fun _=>?_) _|with_reducible refine LeO.loop (fun _=>?_)
noncomputable def G_right_Revoke (x0:(List S56.ty)) (x1:Int):Option ((List S56.ty)×Int) :=
 (G_right_find x0 x1).bind fun t1=>((show Option Bool from if (decide (t1<0))=true then some true else if 0≤t1∧t1<((length x0:Nat):Int) then (some (getD x0 (toNat t1) S56.dflt).2.2.2) else none).bind (fun r1=>if (r1)=true then some ([],160) else (F_slices_Clone_api_Right_api_Right x0).bind fun t2=>(if 0≤t1∧t1<((length t2:Nat):Int) then (some (List.set t2 (toNat t1) ((getD t2 (toNat t1) S56.dflt).1,(getD t2 (toNat t1) S56.dflt).2.1,(getD t2 (toNat t1) S56.dflt).2.2.1,true),0)) else none)))
theorem M_right_Revoke {x0:(List S56.ty)} {x1:Int}  : LeO (G_right_Revoke x0 x1) (F_right_Revoke x0 x1):=by
 unfold G_right_Revoke F_right_Revoke
 repeat' first|with_reducible exact LeO.rfl|with_reducible refine M_right_find|with_reducible refine LeO.ite ?_ ?_|with_reducible refine LeO.bind ?_ (fun _=>?_)|with_reducible refine LeO.elim (fun _=>?_) (fun _=>?_) _|with_reducible refine LeO.loop (fun _=>?_)
noncomputable def G_lane_work_revoke (x0:S88.ty):Option (Value⊕S88.ty) :=
 (G_lane_work_may x0 1).bind (Sum.elim (fun e91=>some (Sum.inl e91)) (fun t1=>(G_slices_IndexFunc_api_Right_api_Right t1.1.2.2.2.2.2.1 (fun x=>F_lane_work_revoke_1 x t1)).bind fun t2=>((show Option ((Value⊕S88.ty)⊕Unit) from if (decide (t2<0))=true then (F_lane_refuse true 160).bind (Sum.elim (fun e95=>some (Sum.inl (Sum.inl e95))) (fun t5=>some (Sum.inr ()))) else if 0≤(mx t2 0)∧(mx t2 0)<((length t1.1.2.2.2.2.2.1:Nat):Int) then (F_lane_refuse ((getD t1.1.2.2.2.2.2.1 (toNat (mx t2 0)) S56.dflt).2.1 != t1.2.2.1) 160).bind (Sum.elim (fun e96=>some (Sum.inl (Sum.inl e96))) (fun t6=>some (Sum.inr ()))) else none).bind (Sum.elim some (fun j11=>(G_right_Revoke t1.1.2.2.2.2.2.1 t1.2.1.2.2.1).bind fun t3=>((F_lane_need t3.2).bind (Sum.elim (fun e94=>some (Sum.inl e94)) (fun t4=>some (Sum.inr ((t1.1.1,t1.1.2.1,t1.1.2.2.1,t1.1.2.2.2.1,t1.1.2.2.2.2.1,t3.1,t1.1.2.2.2.2.2.2),t1.2))))))))))
theorem M_lane_work_revoke {x0:S88.ty}  : LeO (G_lane_work_revoke x0) (F_lane_work_revoke x0):=by
 unfold G_lane_work_revoke F_lane_work_revoke
 repeat' first|with_reducible exact LeO.rfl|with_reducible refine M_lane_work_may|with_reducible refine M_slices_IndexFunc_api_Right_api_Right (fun _=>?_)|with_reducible refine M_right_Revoke|with_reducible refine LeO.ite ?_ ?_|with_reducible refine LeO.bind ?_ (fun _=>?_)|with_reducible refine LeO.elim (fun _=>?_) (fun _=>?_) _|with_reducible refine LeO.loop (fun _=>?_)
noncomputable def G_slices_Index_api_Member_api_Member (x0:(List S43.ty)) (x1:S43.ty):Option Int :=
 (loopN 64 (F_slices_Index_api_Member_api_Member_b1 x0 x1) 0).bind (Sum.elim some (fun j11=>some (-1)))
theorem M_slices_Index_api_Member_api_Member {x0:(List S43.ty)} {x1:S43.ty}  : LeO (G_slices_Index_api_Member_api_Member x0 x1) (F_slices_Index_api_Member_api_Member x0 x1):=by
 unfold G_slices_Index_api_Member_api_Member F_slices_Index_api_Member_api_Member
 repeat' first|with_reducible exact LeO.rfl|with_reducible refine LeO.ite ?_ ?_|with_reducible refine LeO.bind ?_ (fun _=>?_)|with_reducible refine LeO.elim (fun _=>?_) (fun _=>?_) _|with_reducible refine LeO.loop (fun _=>?_)
noncomputable def G_slices_Contains_api_Member_api_Member (x0:(List S43.ty)) (x1:S43.ty):Option Bool :=
 (G_slices_Index_api_Member_api_Member x0 x1).bind fun t1=>(some (decide (t1≥0)))
theorem M_slices_Contains_api_Member_api_Member {x0:(List S43.ty)} {x1:S43.ty}  : LeO (G_slices_Contains_api_Member_api_Member x0 x1) (F_slices_Contains_api_Member_api_Member x0 x1):=by
 unfold G_slices_Contains_api_Member_api_Member F_slices_Contains_api_Member_api_Member
 repeat' first|with_reducible exact LeO.rfl|with_reducible refine M_slices_Index_api_Member_api_Member|with_reducible refine LeO.ite ?_ ?_|with_reducible refine LeO.bind ?_ (fun _=>?_)|with_reducible refine LeO.elim (fun _=>?_) (fun _=>?_) _|with_reducible refine LeO.loop (fun _=>?_)
noncomputable def G_lane_work_wants (x0:S88.ty):Option Bool :=
 (F_lane_work_member x0 x0.2.1.2.2.2.2.1).bind fun t1=>((G_slices_Contains_api_Member_api_Member x0.1.2.2.2.2.2.2.1 t1).bind fun t2=>(some t2))
theorem M_lane_work_wants {x0:S88.ty}  : LeO (G_lane_work_wants x0) (F_lane_work_wants x0):=by
 unfold G_lane_work_wants F_lane_work_wants
 repeat' first|with_reducible exact LeO.rfl|with_reducible refine M_slices_Contains_api_Member_api_Member|with_reducible refine LeO.ite ?_ ?_|with_reducible refine LeO.bind ?_ (fun _=>?_)|with_reducible refine LeO.elim (fun _=>?_) (fun _=>?_) _|with_reducible refine LeO.loop (fun _=>?_)
noncomputable def G_cmp_Or_int (x0:(List Int)):Option Int :=
 (loopN 64 (F_cmp_Or_int_b1 x0) 0).bind (Sum.elim some (fun j11=>some 0))
theorem M_cmp_Or_int {x0:(List Int)}  : LeO (G_cmp_Or_int x0) (F_cmp_Or_int x0):=by
 unfold G_cmp_Or_int F_cmp_Or_int
 repeat' first|with_reducible exact LeO.rfl|with_reducible refine LeO.ite ?_ ?_|with_reducible refine LeO.bind ?_ (fun _=>?_)|with_reducible refine LeO.elim (fun _=>?_) (fun _=>?_) _|with_reducible refine LeO.loop (fun _=>?_)
noncomputable def G_group_compare (x0:S43.ty) (x1:S43.ty):Option Int :=
 (F_cmp_Compare_int x0.1 x1.1).bind fun t1=>((F_cmp_Compare_int x0.2.1 x1.2.1).bind fun t2=>((F_cmp_Compare_uint64 x0.2.2 x1.2.2).bind fun t3=>((G_cmp_Or_int [t1,t2,t3]).bind fun t4=>(some t4))))
theorem M_group_compare {x0:S43.ty} {x1:S43.ty}  : LeO (G_group_compare x0 x1) (F_group_compare x0 x1):=by
 unfold G_group_compare F_group_compare
 repeat' first|with_reducible exact LeO.rfl|with_reducible refine M_cmp_Or_int|with_reducible refine LeO.ite ?_ ?_|with_reducible refine LeO.bind ?_ (fun _=>?_)|with_reducible refine LeO.elim (fun _=>?_) (fun _=>?_) _|with_reducible refine LeO.loop (fun _=>?_)
noncomputable def G_group_Less (x0:S43.ty) (x1:S43.ty):Option Bool :=
 (G_group_compare x0 x1).bind fun t1=>(some (decide (t1<0)))
theorem M_group_Less {x0:S43.ty} {x1:S43.ty}  : LeO (G_group_Less x0 x1) (F_group_Less x0 x1):=by
 unfold G_group_Less F_group_Less
 repeat' first|with_reducible exact LeO.rfl|with_reducible refine M_group_compare|with_reducible refine LeO.ite ?_ ?_|with_reducible refine LeO.bind ?_ (fun _=>?_)|with_reducible refine LeO.elim (fun _=>?_) (fun _=>?_) _|with_reducible refine LeO.loop (fun _=>?_)
noncomputable def G_lane_work_join_1 (x0:S43.ty) (x1:S43.ty):Option Bool :=
 (G_group_Less x1 x0).bind fun t1=>(some t1)
theorem M_lane_work_join_1 {x0:S43.ty} {x1:S43.ty}  : LeO (G_lane_work_join_1 x0 x1) (F_lane_work_join_1 x0 x1):=by
 unfold G_lane_work_join_1 F_lane_work_join_1
 repeat' first|with_reducible exact LeO.rfl|with_reducible refine M_group_Less|with_reducible refine LeO.ite ?_ ?_|with_reducible refine LeO.bind ?_ (fun _=>?_)|with_reducible refine LeO.elim (fun _=>?_) (fun _=>?_) _|with_reducible refine LeO.loop (fun _=>?_)
noncomputable def G_lane_work_join (x0:S88.ty):Option (Value⊕S88.ty) :=
 (G_lane_work_may x0 2).bind (Sum.elim (fun e91=>some (Sum.inl e91)) (fun t1=>(G_lane_work_wants t1).bind fun t2=>((F_lane_refuse t2 163).bind (Sum.elim (fun e93=>some (Sum.inl e93)) (fun t3=>(F_lane_work_member t1 t1.2.1.2.2.2.2.1).bind fun t4=>((G_slices_IndexFunc_api_Member_api_Member t1.1.2.2.2.2.2.2.1 (fun x=>G_lane_work_join_1 x t4)).bind fun t5=>((show Option Int from if (decide (t5<0))=true then some ((length t1.1.2.2.2.2.2.2.1:Nat):Int) else some t5).bind (fun r1=>(F_slices_Insert_api_Member_api_Member t1.1.2.2.2.2.2.2.1 r1 [t4]).bind fun t6=>((G_lane_work_control ((t1.1.1,t1.1.2.1,t1.1.2.2.1,t1.1.2.2.2.1,t1.1.2.2.2.2.1,t1.1.2.2.2.2.2.1,t6,t1.1.2.2.2.2.2.2.2),t1.2) 2 3 t1.2.1.2.2.2.2.1).bind fun t7=>(some (Sum.inr (t7.1,t7.2.1,t7.2.2.1,t7.2.2.2.1,t7.2.2.2.2.1,t7.2.2.2.2.2.1,t7.2.2.2.2.2.2.1,t7.2.1.2.2.2.2.1,t7.2.2.2.2.2.2.2.2))))))))))))
theorem M_lane_work_join {x0:S88.ty}  : LeO (G_lane_work_join x0) (F_lane_work_join x0):=by
 unfold G_lane_work_join F_lane_work_join
 repeat' first|with_reducible exact LeO.rfl|with_reducible refine M_lane_work_may|with_reducible refine M_lane_work_wants|with_reducible refine M_slices_IndexFunc_api_Member_api_Member (fun _=>?_)|with_reducible refine M_lane_work_join_1|with_reducible refine M_lane_work_control|with_reducible refine LeO.ite ?_ ?_|with_reducible refine LeO.bind ?_ (fun _=>?_)|with_reducible refine LeO.elim (fun _=>?_) (fun _=>?_) _|with_reducible refine LeO.loop (fun _=>?_)
noncomputable def G_lane_work_leave (x0:S88.ty):Option (Value⊕S88.ty) :=
 (G_lane_work_may x0 2).bind (Sum.elim (fun e91=>some (Sum.inl e91)) (fun t1=>(G_lane_work_wants t1).bind fun t2=>((F_lane_refuse (!t2) 163).bind (Sum.elim (fun e93=>some (Sum.inl e93)) (fun t3=>(G_lane_work_depart t1 t1.2.1.2.2.2.2.1).bind fun t4=>(some (Sum.inr (t4.1,t4.2.1,t4.2.2.1,t4.2.2.2.1,t4.2.2.2.2.1,t4.2.2.2.2.2.1,t4.2.2.2.2.2.2.1,t4.2.1.2.2.2.2.1,t4.2.2.2.2.2.2.2.2))))))))
theorem M_lane_work_leave {x0:S88.ty}  : LeO (G_lane_work_leave x0) (F_lane_work_leave x0):=by
 unfold G_lane_work_leave F_lane_work_leave
 repeat' first|with_reducible exact LeO.rfl|with_reducible refine M_lane_work_may|with_reducible refine M_lane_work_wants|with_reducible refine M_lane_work_depart|with_reducible refine LeO.ite ?_ ?_|with_reducible refine LeO.bind ?_ (fun _=>?_)|with_reducible refine LeO.elim (fun _=>?_) (fun _=>?_) _|with_reducible refine LeO.loop (fun _=>?_)
noncomputable def G_roster_Next (x0:S26.ty) (x1:Int):Option (S26.ty×Int×Int) :=
 (G_roster_find x0 x1).bind fun t1=>((show Option Bool from if (decide (t1<0))=true then some true else if 0≤t1∧t1<((length x0.2:Nat):Int) then (some (decide ((getD x0.2 (toNat t1) S120.dflt).2≥4294967295))) else none).bind (fun r1=>if (r1)=true then some ((0,[]),0,162) else (F_roster_copied x0).bind fun t2=>(if 0≤t1∧t1<((length t2.2:Nat):Int) then (if 0≤t1∧t1<((length t2.2:Nat):Int) then (if 0≤t1∧t1<((length (List.set t2.2 (toNat t1) ((getD t2.2 (toNat t1) S120.dflt).1,wrap .u64 ((getD t2.2 (toNat t1) S120.dflt).2+1))):Nat):Int) then (some ((t2.1,List.set t2.2 (toNat t1) ((getD t2.2 (toNat t1) S120.dflt).1,wrap .u64 ((getD t2.2 (toNat t1) S120.dflt).2+1))),(getD (List.set t2.2 (toNat t1) ((getD t2.2 (toNat t1) S120.dflt).1,wrap .u64 ((getD t2.2 (toNat t1) S120.dflt).2+1))) (toNat t1) S120.dflt).2,0)) else none) else none) else none)))
theorem M_roster_Next {x0:S26.ty} {x1:Int}  : LeO (G_roster_Next x0 x1) (F_roster_Next x0 x1):=by
 unfold G_roster_Next F_roster_Next
 repeat' first|with_reducible exact LeO.rfl|with_reducible refine M_roster_find|with_reducible refine LeO.ite ?_ ?_|with_reducible refine LeO.bind ?_ (fun _=>?_)|with_reducible refine LeO.elim (fun _=>?_) (fun _=>?_) _|with_reducible refine LeO.loop (fun _=>?_)
noncomputable def G_lane_work_send (x0:S88.ty):Option (Value⊕S88.ty) :=
 (G_lane_work_may x0 4).bind (Sum.elim (fun e91=>some (Sum.inl e91)) (fun t1=>(G_lane_work_wants t1).bind fun t2=>((F_lane_refuse (!t2) 164).bind (Sum.elim (fun e93=>some (Sum.inl e93)) (fun t3=>(F_lane_refuse (decide (((length t1.1.2.2.2.2.2.2.2.2.1:Nat):Int)≥8)) 161).bind (Sum.elim (fun e94=>some (Sum.inl e94)) (fun t4=>(G_roster_Next t1.1.2.2.2.2.1 t1.2.2.1).bind fun t5=>((F_lane_need t5.2.2).bind (Sum.elim (fun e96=>some (Sum.inl e96)) (fun t6=>if apOk (length t1.1.2.2.2.2.2.2.2.2.1+1) 56 then (some (Sum.inr ((t1.1.1,t1.1.2.1,t1.1.2.2.1,t1.1.2.2.2.1,t5.1,t1.1.2.2.2.2.2.1,t1.1.2.2.2.2.2.2.1,t1.1.2.2.2.2.2.2.2.1,t1.1.2.2.2.2.2.2.2.2.1++[(1,t1.2.1.2.2.2.2.2.1,t1.2.1.2.2.2.2.1,t1.2.2.1,t5.2.1,t1.2.1.2.2.2.2.2.2)],t1.1.2.2.2.2.2.2.2.2.2),t1.2.1,t1.2.2.1,t1.2.2.2.1,t1.2.2.2.2.1,t1.2.2.2.2.2.1,t5.2.1,t1.2.1.2.2.2.2.1,t1.2.2.2.2.2.2.2.2))) else none))))))))))
theorem M_lane_work_send {x0:S88.ty}  : LeO (G_lane_work_send x0) (F_lane_work_send x0):=by
 unfold G_lane_work_send F_lane_work_send
 repeat' first|with_reducible exact LeO.rfl|with_reducible refine M_lane_work_may|with_reducible refine M_lane_work_wants|with_reducible refine M_roster_Next|with_reducible refine LeO.ite ?_ ?_|with_reducible refine LeO.bind ?_ (fun _=>?_)|with_reducible refine LeO.elim (fun _=>?_) (fun _=>?_) _|with_reducible refine LeO.loop (fun _=>?_)
noncomputable def G_ways (k:Int) (x0:S88.ty):Option (Value⊕S88.ty) :=
 if k=0 then G_lane_work_open x0 else if k=1 then G_lane_work_close x0 else if k=2 then G_lane_work_grant x0 else if k=3 then G_lane_work_revoke x0 else if k=4 then G_lane_work_join x0 else if k=5 then G_lane_work_leave x0 else if k=6 then G_lane_work_send x0 else none
theorem M_ways {k:Int} {x0:S88.ty}  : LeO (G_ways k x0) (F_ways k x0):=by
 unfold G_ways F_ways
 repeat' first|with_reducible exact LeO.rfl|with_reducible refine M_lane_work_open|with_reducible refine M_lane_work_close|with_reducible refine M_lane_work_grant|with_reducible refine M_lane_work_revoke|with_reducible refine M_lane_work_join|with_reducible refine M_lane_work_leave|with_reducible refine M_lane_work_send|with_reducible refine LeO.ite ?_ ?_|with_reducible refine LeO.bind ?_ (fun _=>?_)|with_reducible refine LeO.elim (fun _=>?_) (fun _=>?_) _|with_reducible refine LeO.loop (fun _=>?_)
noncomputable def G_lane_work_try (x0:S88.ty) (x1:Str):Option (Int⊕(Int×S88.ty)) :=
 (G_parse_Parse x1).bind fun t1=>((F_lane_need t1.2).bind (Sum.elim (fun e92=>(recI 131 e92).bind fun n2=>(some (Sum.inl n2))) (fun t2=>if 0≤t1.1.1∧t1.1.1<((7:Nat):Int) then (G_ways t1.1.1 (x0.1,t1.1,x0.2.2)).bind (Sum.elim (fun e93=>(recI 131 e93).bind fun n3=>(some (Sum.inl n3))) (fun t3=>some (Sum.inr (0,t3)))) else none)))
theorem M_lane_work_try {x0:S88.ty} {x1:Str}  : LeO (G_lane_work_try x0 x1) (F_lane_work_try x0 x1):=by
 unfold G_lane_work_try F_lane_work_try
 repeat' first|with_reducible exact LeO.rfl|with_reducible refine M_parse_Parse|with_reducible refine M_ways|with_reducible refine LeO.ite ?_ ?_|with_reducible refine LeO.bind ?_ (fun _=>?_)|with_reducible refine LeO.elim (fun _=>?_) (fun _=>?_) _|with_reducible refine LeO.loop (fun _=>?_)
noncomputable def G_lane_Call (x0:S38.ty) (x1:Int) (x2:Str):Option (S38.ty×S45.ty) :=
 (F_lane_Copy x0).bind fun t1=>((G_lane_work_try (t1,(0,0,0,0,0,0,[]),0,0,0,0,0,0,(0,0,0),(0,0,0),(0,0,0),[],[]) x2).bind (Sum.elim (fun e92=>if (e92 != 0)=true then (F_lane_Copy x0).bind fun t3=>((F_audit_Add t3.2.2.2.2.2.2.2.2.2.2.2.2.2.2.2 x1 x2 e92).bind fun t4=>(some ((t3.1,t3.2.1,t3.2.2.1,t3.2.2.2.1,t3.2.2.2.2.1,t3.2.2.2.2.2.1,t3.2.2.2.2.2.2.1,t3.2.2.2.2.2.2.2.1,t3.2.2.2.2.2.2.2.2.1,t3.2.2.2.2.2.2.2.2.2.1,t3.2.2.2.2.2.2.2.2.2.2.1,t3.2.2.2.2.2.2.2.2.2.2.2.1,t3.2.2.2.2.2.2.2.2.2.2.2.2.1,t3.2.2.2.2.2.2.2.2.2.2.2.2.2.1,t3.2.2.2.2.2.2.2.2.2.2.2.2.2.2.1,t4),0,0,e92,0,0,0,(0,0,0),(0,0,0),(0,0,0),[],[]))) else none) (fun t2=>if (t2.1 != 0)=true then (F_lane_Copy x0).bind fun t5=>((F_audit_Add t5.2.2.2.2.2.2.2.2.2.2.2.2.2.2.2 x1 x2 t2.1).bind fun t6=>(some ((t5.1,t5.2.1,t5.2.2.1,t5.2.2.2.1,t5.2.2.2.2.1,t5.2.2.2.2.2.1,t5.2.2.2.2.2.2.1,t5.2.2.2.2.2.2.2.1,t5.2.2.2.2.2.2.2.2.1,t5.2.2.2.2.2.2.2.2.2.1,t5.2.2.2.2.2.2.2.2.2.2.1,t5.2.2.2.2.2.2.2.2.2.2.2.1,t5.2.2.2.2.2.2.2.2.2.2.2.2.1,t5.2.2.2.2.2.2.2.2.2.2.2.2.2.1,t5.2.2.2.2.2.2.2.2.2.2.2.2.2.2.1,t6),0,0,t2.1,0,0,0,(0,0,0),(0,0,0),(0,0,0),[],[]))) else (F_audit_Add t2.2.1.2.2.2.2.2.2.2.2.2.2.2.2.2.2.2 x1 x2 t2.1).bind fun t7=>(some ((t2.2.1.1,t2.2.1.2.1,t2.2.1.2.2.1,t2.2.1.2.2.2.1,t2.2.1.2.2.2.2.1,t2.2.1.2.2.2.2.2.1,t2.2.1.2.2.2.2.2.2.1,t2.2.1.2.2.2.2.2.2.2.1,t2.2.1.2.2.2.2.2.2.2.2.1,t2.2.1.2.2.2.2.2.2.2.2.2.1,t2.2.1.2.2.2.2.2.2.2.2.2.2.1,t2.2.1.2.2.2.2.2.2.2.2.2.2.2.1,t2.2.1.2.2.2.2.2.2.2.2.2.2.2.2.1,t2.2.1.2.2.2.2.2.2.2.2.2.2.2.2.2.1,t2.2.1.2.2.2.2.2.2.2.2.2.2.2.2.2.2.1,t7),t2.2.2.2.1,t2.2.2.2.2.1,t2.1,t2.2.2.2.2.2.2)))))
theorem M_lane_Call {x0:S38.ty} {x1:Int} {x2:Str}  : LeO (G_lane_Call x0 x1 x2) (F_lane_Call x0 x1 x2):=by
 unfold G_lane_Call F_lane_Call
 repeat' first|with_reducible exact LeO.rfl|with_reducible refine M_lane_work_try|with_reducible refine LeO.ite ?_ ?_|with_reducible refine LeO.bind ?_ (fun _=>?_)|with_reducible refine LeO.elim (fun _=>?_) (fun _=>?_) _|with_reducible refine LeO.loop (fun _=>?_)
noncomputable def G_slices_Compact_uint64_uint64_b1 (x0:(List Int)) (s1:Int):Option (Int⊕((List Int)⊕Unit)) :=
 if (decide (s1<((length x0:Nat):Int)))=true then if 0≤s1∧s1<((length x0:Nat):Int) then (if 0≤(wrap .i64 (s1-1))∧(wrap .i64 (s1-1))<((length x0:Nat):Int) then (if ((getD x0 (toNat s1) 0)==(getD x0 (toNat (wrap .i64 (s1-1))) 0))=true then if ((0:Int)≤s1∧toNat s1≤length x0∧length x0≤length x0) then (loopN 64 (F_slices_Compact_uint64_uint64_b2 s1 x0) (s1,1,x0)).bind (fun r2=>if ((0:Int)≤r2.1∧toNat r2.1≤length r2.2∧length r2.2≤length r2.2) then (if (toNat r2.1)+(length r2.2-toNat r2.1)≤length r2.2 then (if ((0:Int)≤r2.1∧0≤toNat r2.1∧toNat r2.1≤length (take (toNat r2.1) r2.2++(replicate (length r2.2-toNat r2.1) 0++drop ((toNat r2.1)+(length r2.2-toNat r2.1)) r2.2))) then (if (toNat r2.1-0)≤length (take (toNat r2.1) r2.2++(replicate (length r2.2-toNat r2.1) 0++drop ((toNat r2.1)+(length r2.2-toNat r2.1)) r2.2)) then some (Sum.inr (Sum.inl (take (toNat r2.1-0) (take (toNat r2.1) r2.2++(replicate (length r2.2-toNat r2.1) 0++drop ((toNat r2.1)+(length r2.2-toNat r2.1)) r2.2))))) else none) else none) else none) else none) else none else some (Sum.inl (wrap .i64 (s1+1)))) else none) else none else some (Sum.inr (Sum.inr ()))
theorem M_slices_Compact_uint64_uint64_b1 {x0:(List Int)} {s1:Int}  : LeO (G_slices_Compact_uint64_uint64_b1 x0 s1) (F_slices_Compact_uint64_uint64_b1 x0 s1):=by
 unfold G_slices_Compact_uint64_uint64_b1 F_slices_Compact_uint64_uint64_b1
 repeat' first|with_reducible exact LeO.rfl|with_reducible refine LeO.ite ?_ ?_|with_reducible refine LeO.bind ?_ (fun _=>?_)|with_reducible refine LeO.elim (fun _=>?_) (fun _=>?_) _|with_reducible refine LeO.loop (fun _=>?_)
noncomputable def G_slices_Compact_uint64_uint64 (x0:(List Int)):Option (List Int) :=
 if (decide (((length x0:Nat):Int)<2))=true then some x0 else (loopN 64 (G_slices_Compact_uint64_uint64_b1 x0) 1).bind (Sum.elim some (fun j11=>some x0))
theorem M_slices_Compact_uint64_uint64 {x0:(List Int)}  : LeO (G_slices_Compact_uint64_uint64 x0) (F_slices_Compact_uint64_uint64 x0):=by
 unfold G_slices_Compact_uint64_uint64 F_slices_Compact_uint64_uint64
 repeat' first|with_reducible exact LeO.rfl|with_reducible refine M_slices_Compact_uint64_uint64_b1|with_reducible refine LeO.ite ?_ ?_|with_reducible refine LeO.bind ?_ (fun _=>?_)|with_reducible refine LeO.elim (fun _=>?_) (fun _=>?_) _|with_reducible refine LeO.loop (fun _=>?_)
noncomputable def G_sched_Sessions (x0:(List S58.ty)):Option (List Int) :=
 (loopN 64 (F_sched_Sessions_b1 x0) (0,[])).bind (fun r1=>(G_slices_Sort_uint64_uint64 r1).bind fun t1=>((G_slices_Compact_uint64_uint64 t1).bind fun t2=>(some t2)))
theorem M_sched_Sessions {x0:(List S58.ty)}  : LeO (G_sched_Sessions x0) (F_sched_Sessions x0):=by
 unfold G_sched_Sessions F_sched_Sessions
 repeat' first|with_reducible exact LeO.rfl|with_reducible refine M_slices_Sort_uint64_uint64|with_reducible refine M_slices_Compact_uint64_uint64|with_reducible refine LeO.ite ?_ ?_|with_reducible refine LeO.bind ?_ (fun _=>?_)|with_reducible refine LeO.elim (fun _=>?_) (fun _=>?_) _|with_reducible refine LeO.loop (fun _=>?_)
noncomputable def G_slices_IndexFunc_uint64_uint64_b1 (x0:(List Int)) (x1:(Int→Option Bool)) (s1:Int):Option (Int⊕(Int⊕Unit)) :=
 if (decide (s1<((length x0:Nat):Int)))=true then if 0≤s1∧s1<((length x0:Nat):Int) then (x1 (getD x0 (toNat s1) 0)).bind fun t1=>(if (t1)=true then some (Sum.inr (Sum.inl s1)) else some (Sum.inl (wrap .i64 (s1+1)))) else none else some (Sum.inr (Sum.inr ()))
theorem M_slices_IndexFunc_uint64_uint64_b1 {x0:(List Int)} {x1 x1':(Int→Option Bool)} {s1:Int} (hx1:∀x,LeO (x1 x) (x1' x)):LeO (G_slices_IndexFunc_uint64_uint64_b1 x0 x1 s1) (F_slices_IndexFunc_uint64_uint64_b1 x0 x1' s1):=by
 unfold G_slices_IndexFunc_uint64_uint64_b1 F_slices_IndexFunc_uint64_uint64_b1
 repeat' first|with_reducible exact LeO.rfl|with_reducible exact hx1 _|with_reducible refine LeO.ite ?_ ?_|with_reducible refine LeO.bind ?_ (fun _=>?_)|with_reducible refine LeO.elim (fun _=>?_) (fun _=>?_) _|with_reducible refine LeO.loop (fun _=>?_)
noncomputable def G_slices_IndexFunc_uint64_uint64 (x0:(List Int)) (x1:(Int→Option Bool)):Option Int :=
 (loopN 64 (G_slices_IndexFunc_uint64_uint64_b1 x0 x1) 0).bind (Sum.elim some (fun j11=>some (-1)))
theorem M_slices_IndexFunc_uint64_uint64 {x0:(List Int)} {x1 x1':(Int→Option Bool)} (hx1:∀x,LeO (x1 x) (x1' x)):LeO (G_slices_IndexFunc_uint64_uint64 x0 x1) (F_slices_IndexFunc_uint64_uint64 x0 x1'):=by
 unfold G_slices_IndexFunc_uint64_uint64 F_slices_IndexFunc_uint64_uint64
 repeat' first|with_reducible exact LeO.rfl|with_reducible exact hx1 _|with_reducible refine M_slices_IndexFunc_uint64_uint64_b1 (fun _=>?_)|with_reducible refine LeO.ite ?_ ?_|with_reducible refine LeO.bind ?_ (fun _=>?_)|with_reducible refine LeO.elim (fun _=>?_) (fun _=>?_) _|with_reducible refine LeO.loop (fun _=>?_)
noncomputable def G_sched_Turn (x0:(List S58.ty)) (x1:Int):Option (Int×Bool) :=
 (G_sched_Sessions x0).bind fun t1=>(if (((length t1:Nat):Int)==0)=true then some (0,false) else if 0≤(0:Int)∧(0:Int)<((length t1:Nat):Int) then (G_slices_IndexFunc_uint64_uint64 t1 (fun x=>F_sched_Turn_1 x x1)).bind fun t2=>(if (decide (t2≥0))=true then if 0≤t2∧t2<((length t1:Nat):Int) then (G_slices_IndexFunc_api_Entry_api_Entry x0 (fun x=>F_sched_Turn_2 x (getD t1 (toNat t2) 0))).bind fun t3=>(some (t3,true)) else none else (G_slices_IndexFunc_api_Entry_api_Entry x0 (fun x=>F_sched_Turn_2 x (getD t1 (toNat 0) 0))).bind fun t4=>(some (t4,true))) else none)
theorem M_sched_Turn {x0:(List S58.ty)} {x1:Int}  : LeO (G_sched_Turn x0 x1) (F_sched_Turn x0 x1):=by
 unfold G_sched_Turn F_sched_Turn
 repeat' first|with_reducible exact LeO.rfl|with_reducible refine M_sched_Sessions|with_reducible refine M_slices_IndexFunc_uint64_uint64 (fun _=>?_)|with_reducible refine M_slices_IndexFunc_api_Entry_api_Entry (fun _=>?_)|with_reducible refine LeO.ite ?_ ?_|with_reducible refine LeO.bind ?_ (fun _=>?_)|with_reducible refine LeO.elim (fun _=>?_) (fun _=>?_) _|with_reducible refine LeO.loop (fun _=>?_)
noncomputable def G_sched_Fill_b1 (x2:Int) (s1:(Int×Int×(List S58.ty)×(List S58.ty))):Option ((Int×Int×(List S58.ty)×(List S58.ty))⊕(Int×(List S58.ty)×(List S58.ty))) :=
 if (decide (s1.2.1<(mx 0 (mn x2 16))))=true then (G_sched_Turn s1.2.2.1 s1.1).bind fun t2=>(if (!t2.2)=true then some (Sum.inr (s1.1,s1.2.2.1,s1.2.2.2)) else if 0≤t2.1∧t2.1<((length s1.2.2.1:Nat):Int) then (if apOk (length s1.2.2.2+1) 56 then (if 0≤t2.1∧t2.1<((length s1.2.2.1:Nat):Int) then (F_slices_Delete_api_Entry_api_Entry s1.2.2.1 t2.1 (wrap .i64 (t2.1+1))).bind fun t3=>(some (Sum.inl ((getD s1.2.2.1 (toNat t2.1) S58.dflt).2.2.2.1,wrap .i64 (s1.2.1+1),t3,s1.2.2.2++[getD s1.2.2.1 (toNat t2.1) S58.dflt]))) else none) else none) else none) else some (Sum.inr (s1.1,s1.2.2.1,s1.2.2.2))
theorem M_sched_Fill_b1 {x2:Int} {s1:(Int×Int×(List S58.ty)×(List S58.ty))}  : LeO (G_sched_Fill_b1 x2 s1) (F_sched_Fill_b1 x2 s1):=by
 unfold G_sched_Fill_b1 F_sched_Fill_b1
 repeat' first|with_reducible exact LeO.rfl|with_reducible refine M_sched_Turn|with_reducible refine LeO.ite ?_ ?_|with_reducible refine LeO.bind ?_ (fun _=>?_)|with_reducible refine LeO.elim (fun _=>?_) (fun _=>?_) _|with_reducible refine LeO.loop (fun _=>?_)
noncomputable def G_sched_Fill (x0:(List S58.ty)) (x1:Int) (x2:Int):Option ((List S58.ty)×(List S58.ty)×Int) :=
 (F_slices_Clone_api_Entry_api_Entry x0).bind fun t1=>((loopN 64 (G_sched_Fill_b1 x2) (x1,0,t1,[])).bind (fun r1=>some (r1.2.2,r1.2.1,r1.1)))
theorem M_sched_Fill {x0:(List S58.ty)} {x1:Int} {x2:Int}  : LeO (G_sched_Fill x0 x1 x2) (F_sched_Fill x0 x1 x2):=by
 unfold G_sched_Fill F_sched_Fill
 repeat' first|with_reducible exact LeO.rfl|with_reducible refine M_sched_Fill_b1|with_reducible refine LeO.ite ?_ ?_|with_reducible refine LeO.bind ?_ (fun _=>?_)|with_reducible refine LeO.elim (fun _=>?_) (fun _=>?_) _|with_reducible refine LeO.loop (fun _=>?_)
noncomputable def G_lane_Emit (x0:S38.ty):Option (S38.ty×(List S58.ty)) :=
 (F_lane_Copy x0).bind fun t1=>(if ((0:Int)≤mn ((length t1.2.2.2.2.2.2.2.1:Nat):Int) 2∧0≤toNat (mn ((length t1.2.2.2.2.2.2.2.1:Nat):Int) 2)∧toNat (mn ((length t1.2.2.2.2.2.2.2.1:Nat):Int) 2)≤length t1.2.2.2.2.2.2.2.1) then (if 0+(toNat (mn ((length t1.2.2.2.2.2.2.2.1:Nat):Int) 2)-0)≤length t1.2.2.2.2.2.2.2.1 then (F_slices_Clone_api_Entry_api_Entry (take (toNat (mn ((length t1.2.2.2.2.2.2.2.1:Nat):Int) 2)-0) (drop 0 t1.2.2.2.2.2.2.2.1))).bind fun t2=>((F_slices_Delete_api_Entry_api_Entry t1.2.2.2.2.2.2.2.1 0 (mn ((length t1.2.2.2.2.2.2.2.1:Nat):Int) 2)).bind fun t3=>((G_sched_Fill t1.2.2.2.2.2.2.2.2.1 t1.2.2.2.2.2.2.2.2.2.1 (wrap .i64 ((2:Int)-(mn ((length t1.2.2.2.2.2.2.2.1:Nat):Int) 2)))).bind fun t4=>(if apOk (length t2+(length t4.1)) 56 then (some ((t1.1,t1.2.1,t1.2.2.1,t1.2.2.2.1,t1.2.2.2.2.1,t1.2.2.2.2.2.1,t1.2.2.2.2.2.2.1,t3,t4.2.1,t4.2.2,t1.2.2.2.2.2.2.2.2.2.2),t2++t4.1)) else none))) else none) else none)
theorem M_lane_Emit {x0:S38.ty}  : LeO (G_lane_Emit x0) (F_lane_Emit x0):=by
 unfold G_lane_Emit F_lane_Emit
 repeat' first|with_reducible exact LeO.rfl|with_reducible refine M_sched_Fill|with_reducible refine LeO.ite ?_ ?_|with_reducible refine LeO.bind ?_ (fun _=>?_)|with_reducible refine LeO.elim (fun _=>?_) (fun _=>?_) _|with_reducible refine LeO.loop (fun _=>?_)
noncomputable def G_congresslaw23_fixed:Option Bool :=
 (F_lane_Start 0 0 [9] (0,0,1) (List.set (replicate 8 0) 0 1)).bind fun t1=>((G_lane_Call t1 1 ([111,112,101,110]:Str)).bind fun t2=>((G_lane_Call t2.1 1 ([106,111,105,110,32,57,32,49]:Str)).bind fun t3=>((G_lane_Call t3.1 1 KS1).bind fun t4=>((G_lane_Call t4.1 1 KS2).bind fun t5=>((G_lane_Emit t4.1).bind fun t6=>((show Option Bool from if (t2.2.2.2.1==0)=true then if (t2.2.1==1)=true then if (t2.2.2.2.2.1==9)=true then if (t3.2.2.2.1==0)=true then if (((length t3.1.2.2.2.2.2.2.2.1:Nat):Int)==1)=true then if 0≤(0:Int)∧(0:Int)<((length t3.1.2.2.2.2.2.2.2.1:Nat):Int) then (if ((getD t3.1.2.2.2.2.2.2.2.1 (toNat 0) S58.dflt).1==2)=true then if (t4.2.2.2.1==0)=true then if (t4.2.2.2.2.2.1==1)=true then if (t5.2.2.2.1==160)=true then if (((length t6.2:Nat):Int)==2)=true then if 0≤(1:Int)∧(1:Int)<((length t6.2:Nat):Int) then (some ((getD t6.2 (toNat 1) S58.dflt).2.2.2.2.2==([104,105]:Str))) else none else some false else some false else some false else some false else some false) else none else some false else some false else some false else some false else some false).bind (fun r1=>some r1)))))))
theorem M_congresslaw23_fixed   : LeO (G_congresslaw23_fixed) (F_congresslaw23_fixed):=by
 unfold G_congresslaw23_fixed F_congresslaw23_fixed
 repeat' first|with_reducible exact LeO.rfl|with_reducible refine M_lane_Call|with_reducible refine M_lane_Emit|with_reducible refine LeO.ite ?_ ?_|with_reducible refine LeO.bind ?_ (fun _=>?_)|with_reducible refine LeO.elim (fun _=>?_) (fun _=>?_) _|with_reducible refine LeO.loop (fun _=>?_)
end Go.Proofs.YtglfdihomfhmmaaGreatDoor
namespace Go.Proofs.YtglfdihomfhmmaaGreatDoor.La
open Go.RowKit Go.IntWalk
theorem loopO_go {σ τ:Type} {body:σ→Option (σ⊕τ)} {s s':σ} (h:body s=some (.inl s')):loopO body s=loopO body s':=by rw [loopO_eq,h];rfl
theorem loopO_end {σ τ:Type} {body:σ→Option (σ⊕τ)} {s:σ} {r:τ} (h:body s=some (.inr r)):loopO body s=some r:=by rw [loopO_eq,h];rfl
theorem wr {x:Int} (h:-9223372036854775808≤x∧x≤9223372036854775807):wrap .i64 x=x:=i64_in x h
def forN {σ:Type} (f:Nat→σ→σ):Nat→σ→σ
 | 0,s=>s
 | n+1,s=>f n (forN f n s)
theorem loop_for {S σ τ:Type} {N:Nat} {mk:Nat→σ→S} {body:S→Option (S⊕τ)} (f:Nat→σ→σ) (fin:σ→τ) (Inv:Nat→σ→Prop)
  (h1:∀i s,i<N→Inv i s→body (mk i s)=some (.inl (mk (i+1) (f i s)))∧Inv (i+1) (f i s))
  (h2:∀s,Inv N s→body (mk N s)=some (.inr (fin s))) {s:σ} (h0:Inv 0 s):loopO body (mk 0 s)=some (fin (forN f N s))∧Inv N (forN f N s):=by
 have key:∀k,k≤N→loopO body (mk 0 s)=loopO body (mk k (forN f k s))∧Inv k (forN f k s):=by
  intro k
  induction k with
  | zero=>intro _;exact ⟨rfl,h0⟩
  | succ k ih =>
   intro hk
   obtain ⟨e,i⟩:=ih (by omega)
   obtain ⟨e1,i1⟩:=h1 k _ (by omega) i
   exact ⟨e.trans (loopO_go e1),i1⟩
 obtain ⟨e,i⟩:=key N (Nat.le_refl _)
 exact ⟨e.trans (loopO_end (h2 _ i)),i⟩
theorem loop_any {S τ:Type} {N:Nat} {mk:Nat→S} {body:S→Option (S⊕τ)} (p:Nat→Bool) (r:τ) (fin:τ)
  (h1:∀i,i<N→body (mk i)=some (if p i=true then .inr r else .inl (mk (i+1)))) (h2:body (mk N)=some (.inr fin)) :
  loopO body (mk 0)=some (if (List.range N).any p=true then r else fin):=by
 have key:∀j k,k+j=N→loopO body (mk k)=some (if (List.range' k j).any p=true then r else fin):=by
  intro j
  induction j with
  | zero =>
   intro k hk
   obtain rfl:k=N:=by omega
   rw [loopO_end h2];simp
  | succ j ih =>
   intro k hk
   have e:=h1 k (by omega)
   by_cases hp:p k=true
   ·rw [if_pos hp] at e
    rw [loopO_end e,List.range'_succ,List.any_cons,hp];simp
   ·rw [if_neg hp] at e
    have hp':p k=false:=by simpa using hp
    rw [loopO_go e,ih (k+1) (by omega),List.range'_succ,List.any_cons,hp',Bool.false_or]
 rw [key N 0 (by omega),← List.range_eq_range']
theorem loop_first {S τ:Type} {N:Nat} {mk:Nat→S} {body:S→Option (S⊕τ)} (p:Nat→Bool) (r:Nat→τ) (fin:τ)
  (h1:∀i,i<N→body (mk i)=some (if p i=true then .inr (r i) else .inl (mk (i+1)))) (h2:body (mk N)=some (.inr fin)) :
  loopO body (mk 0)=some (match (List.range N).find? p with|some i=>r i|none=>fin):=by
 have key:∀j k,k+j=N→loopO body (mk k)=some (match (List.range' k j).find? p with|some i=>r i|none=>fin):=by
  intro j
  induction j with
  | zero =>
   intro k hk
   obtain rfl:k=N:=by omega
   rw [loopO_end h2];simp
  | succ j ih =>
   intro k hk
   have e:=h1 k (by omega)
   by_cases hp:p k=true
   ·rw [if_pos hp] at e
    rw [loopO_end e,List.range'_succ,List.find?_cons_of_pos hp]
   ·rw [if_neg hp] at e
    rw [loopO_go e,ih (k+1) (by omega),List.range'_succ,List.find?_cons_of_neg hp]
 rw [key N 0 (by omega),← List.range_eq_range']
theorem wi {n:Nat} (h:n<4611686018427387904):wrap .i64 ((n:Int)+1)=((n+1:Nat):Int):=by rw [wr (by omega)];omega
theorem wn {i:Nat} (h:i<1000000000000) {x:Int} (e:x=(i:Int)):wrap .i64 x=(i:Int):=by rw [e,wr (by omega)]
theorem getD_lt {α:Type} {l:List α} {d:α} {i:Nat} (h:i<l.length):l.getD i d=l[i]:=by rw [List.getD_eq_getElem?_getD,List.getElem?_eq_getElem h];rfl
abbrev TRight:=S56.ty
abbrev zRight:TRight:=S56.dflt
abbrev TSession:=S120.ty
abbrev zSession:TSession:=S120.dflt
abbrev TEntry:=S58.ty
abbrev zEntry:TEntry:=S58.dflt
abbrev TMember:=S43.ty
abbrev zMember:TMember:=S43.dflt
abbrev TWait:=S115.ty
abbrev zWait:TWait:=S115.dflt
abbrev TRecord:=S53.ty
abbrev zRecord:TRecord:=S53.dflt
theorem clone_Right {l:List TRight} (h:l.length*32≤140737488355328):F_slices_Clone_api_Right_api_Right l=some l:=by
 unfold F_slices_Clone_api_Right_api_Right
 rw [if_pos ⟨by omega,by simp [maxLen];omega⟩,List.nil_append]
theorem clone_Session {l:List TSession} (h:l.length*16≤140737488355328):F_slices_Clone_api_Session_api_Session l=some l:=by
 unfold F_slices_Clone_api_Session_api_Session
 rw [if_pos ⟨by omega,by simp [maxLen];omega⟩,List.nil_append]
theorem clone_Entry {l:List TEntry} (h:l.length*56≤140737488355328):F_slices_Clone_api_Entry_api_Entry l=some l:=by
 unfold F_slices_Clone_api_Entry_api_Entry
 rw [if_pos ⟨by omega,by simp [maxLen];omega⟩,List.nil_append]
theorem clone_Member {l:List TMember} (h:l.length*24≤140737488355328):F_slices_Clone_api_Member_api_Member l=some l:=by
 unfold F_slices_Clone_api_Member_api_Member
 rw [if_pos ⟨by omega,by simp [maxLen];omega⟩,List.nil_append]
theorem clone_Wait {l:List TWait} (h:l.length*80≤140737488355328):F_slices_Clone_api_Wait_api_Wait l=some l:=by
 unfold F_slices_Clone_api_Wait_api_Wait
 rw [if_pos ⟨by omega,by simp [maxLen];omega⟩,List.nil_append]
theorem clone_Record {l:List TRecord} (h:l.length*40≤140737488355328):F_slices_Clone_api_Record_api_Record l=some l:=by
 unfold F_slices_Clone_api_Record_api_Record
 rw [if_pos ⟨by omega,by simp [maxLen];omega⟩,List.nil_append]
theorem clone_u {l:List Int} (h:l.length*8≤140737488355328):F_slices_Clone_uint64_uint64 l=some l:=by
 unfold F_slices_Clone_uint64_uint64
 rw [if_pos ⟨by omega,by simp [maxLen];omega⟩,List.nil_append]
theorem idx_Right {l:List TRight} {p:TRight→Bool} (h:l.length≤9000000):F_slices_IndexFunc_api_Right_api_Right l (fun x=>some (p x))=some (match (List.range l.length).find? (fun k=>p (l.getD k zRight)) with|some i=>(i:Int)|none=>-1):=by
 unfold F_slices_IndexFunc_api_Right_api_Right
 have:=loop_first (N:=l.length) (mk:=fun (k:Nat)=>(k:Int)) (body:=F_slices_IndexFunc_api_Right_api_Right_b1 l (fun x=>some (p x))) (fun k=>p (l.getD k zRight)) (fun k=>Sum.inl (k:Int)) (Sum.inr ()) (fun i hi=>?_) ?_
 ·have this:loopO (F_slices_IndexFunc_api_Right_api_Right_b1 l (fun x=>some (p x))) 0=_:=this
  rw [this,Option.bind_some]
  cases (List.range l.length).find? (fun k=>p (l.getD k zRight))<;>rfl
 ·simp only [F_slices_IndexFunc_api_Right_api_Right_b1]
  rw [if_pos (by simp;omega),if_pos (by omega)]
  simp only [Int.toNat_natCast,wi (show i<4611686018427387904 by omega),Option.bind_some]
  split<;>simp_all
 ·simp only [F_slices_IndexFunc_api_Right_api_Right_b1]
  rw [if_neg (by simp)]
theorem idx_Session {l:List TSession} {p:TSession→Bool} (h:l.length≤9000000):F_slices_IndexFunc_api_Session_api_Session l (fun x=>some (p x))=some (match (List.range l.length).find? (fun k=>p (l.getD k zSession)) with|some i=>(i:Int)|none=>-1):=by
 unfold F_slices_IndexFunc_api_Session_api_Session
 have:=loop_first (N:=l.length) (mk:=fun (k:Nat)=>(k:Int)) (body:=F_slices_IndexFunc_api_Session_api_Session_b1 l (fun x=>some (p x))) (fun k=>p (l.getD k zSession)) (fun k=>Sum.inl (k:Int)) (Sum.inr ()) (fun i hi=>?_) ?_
 ·have this:loopO (F_slices_IndexFunc_api_Session_api_Session_b1 l (fun x=>some (p x))) 0=_:=this
  rw [this,Option.bind_some]
  cases (List.range l.length).find? (fun k=>p (l.getD k zSession))<;>rfl
 ·simp only [F_slices_IndexFunc_api_Session_api_Session_b1]
  rw [if_pos (by simp;omega),if_pos (by omega)]
  simp only [Int.toNat_natCast,wi (show i<4611686018427387904 by omega),Option.bind_some]
  split<;>simp_all
 ·simp only [F_slices_IndexFunc_api_Session_api_Session_b1]
  rw [if_neg (by simp)]
theorem idx_Entry {l:List TEntry} {p:TEntry→Bool} (h:l.length≤9000000):F_slices_IndexFunc_api_Entry_api_Entry l (fun x=>some (p x))=some (match (List.range l.length).find? (fun k=>p (l.getD k zEntry)) with|some i=>(i:Int)|none=>-1):=by
 unfold F_slices_IndexFunc_api_Entry_api_Entry
 have:=loop_first (N:=l.length) (mk:=fun (k:Nat)=>(k:Int)) (body:=F_slices_IndexFunc_api_Entry_api_Entry_b1 l (fun x=>some (p x))) (fun k=>p (l.getD k zEntry)) (fun k=>Sum.inl (k:Int)) (Sum.inr ()) (fun i hi=>?_) ?_
 ·have this:loopO (F_slices_IndexFunc_api_Entry_api_Entry_b1 l (fun x=>some (p x))) 0=_:=this
  rw [this,Option.bind_some]
  cases (List.range l.length).find? (fun k=>p (l.getD k zEntry))<;>rfl
 ·simp only [F_slices_IndexFunc_api_Entry_api_Entry_b1]
  rw [if_pos (by simp;omega),if_pos (by omega)]
  simp only [Int.toNat_natCast,wi (show i<4611686018427387904 by omega),Option.bind_some]
  split<;>simp_all
 ·simp only [F_slices_IndexFunc_api_Entry_api_Entry_b1]
  rw [if_neg (by simp)]
theorem idx_Member {l:List TMember} {p:TMember→Bool} (h:l.length≤9000000):F_slices_IndexFunc_api_Member_api_Member l (fun x=>some (p x))=some (match (List.range l.length).find? (fun k=>p (l.getD k zMember)) with|some i=>(i:Int)|none=>-1):=by
 unfold F_slices_IndexFunc_api_Member_api_Member
 have:=loop_first (N:=l.length) (mk:=fun (k:Nat)=>(k:Int)) (body:=F_slices_IndexFunc_api_Member_api_Member_b1 l (fun x=>some (p x))) (fun k=>p (l.getD k zMember)) (fun k=>Sum.inl (k:Int)) (Sum.inr ()) (fun i hi=>?_) ?_
 ·have this:loopO (F_slices_IndexFunc_api_Member_api_Member_b1 l (fun x=>some (p x))) 0=_:=this
  rw [this,Option.bind_some]
  cases (List.range l.length).find? (fun k=>p (l.getD k zMember))<;>rfl
 ·simp only [F_slices_IndexFunc_api_Member_api_Member_b1]
  rw [if_pos (by simp;omega),if_pos (by omega)]
  simp only [Int.toNat_natCast,wi (show i<4611686018427387904 by omega),Option.bind_some]
  split<;>simp_all
 ·simp only [F_slices_IndexFunc_api_Member_api_Member_b1]
  rw [if_neg (by simp)]
theorem del_Entry {l:List TEntry} {p:TEntry→Bool} (h:l.length≤9000000):F_slices_DeleteFunc_api_Entry_api_Entry l (fun x=>some (p x))=some (l.filter fun x=>!p x):=by
 unfold F_slices_DeleteFunc_api_Entry_api_Entry
 rw [idx_Entry h,Option.bind_some]
 cases hf:(List.range l.length).find? (fun k=>p (l.getD k zEntry)) with
 | none =>
  dsimp only
  rw [if_pos (by decide)]
  rw [List.find?_eq_none] at hf
  rw [List.filter_eq_self.2]
  intro x hx
  obtain ⟨j,hj,e⟩:=List.mem_iff_getElem.1 hx
  have:=hf j (List.mem_range.2 hj)
  rw [getD_lt hj,e] at this
  simpa using this
 | some i0 =>
  have hp:=List.find?_some hf
  have hi0:=List.mem_range.1 (List.mem_of_find?_eq_some hf)
  have hbefore:∀j,j<i0→p (l.getD j zEntry)=false:=by
   intro j hj
   rw [List.find?_eq_some_iff_append] at hf
   obtain ⟨_,q1,q2,e,hn⟩:=hf
   have hlen:q1.length=i0:=by
    have e1:(List.range l.length)[q1.length]?=some i0:=by rw [e];simp
    rw [List.getElem?_range] at e1
    ·exact inj e1
    ·have:=congrArg length e;simp at this;omega
   have hj2:j∈q1:=by
    have e1:(List.range l.length)[j]?=some j:=List.getElem?_range (by omega)
    rw [e,List.getElem?_append_left (by omega)] at e1
    exact List.mem_of_getElem? e1
   simpa using hn j hj2
  dsimp only
  rw [if_neg (by simp)]
  have hl:=loop_for (N:=l.length-(i0+1)) (mk:=fun (k:Nat) (s:Nat×List TEntry)=>((s.1:Int),((i0+1+k:Nat):Int),s.2)) (body:=F_slices_DeleteFunc_api_Entry_api_Entry_b1 (fun x=>some (p x)))
   (fun k s=>if p (s.2.getD (i0+1+k) zEntry)=true then s else (s.1+1,s.2.set s.1 (s.2.getD (i0+1+k) zEntry))) (fun s=>((s.1:Int),s.2))
   (fun k s=>s.1<i0+1+k∧s.2.length=l.length∧s.2.take s.1=(l.take (i0+1+k)).filter (fun x=>!p x)∧s.2.drop (i0+1+k)=l.drop (i0+1+k))
   (fun k s hk hs=>?_) (fun s hs=>?_) (s:=(i0,l)) ⟨by omega,rfl,?_,rfl⟩
  ·obtain ⟨e,i1,i2,i3,i4⟩:=hl
   rw [wn (i:=i0+1+0) (by omega) (by omega)]
   rw [e,Option.bind_some]
   generalize forN _ _ _=r at i1 i2 i3 i4
   have hN:i0+1+(l.length-(i0+1))=l.length:=by omega
   rw [hN] at i1 i3
   rw [List.take_of_length_le (Nat.le_refl _)] at i3
   simp only [Int.toNat_natCast]
   have hlen:(take r.1 r.2++(replicate (length r.2-r.1) (S58.dflt)++drop (r.1+(length r.2-r.1)) r.2)).length=l.length:=by
    simp only [List.length_append,List.length_take,List.length_replicate,List.length_drop];omega
   rw [if_pos ⟨by omega,by omega,by omega⟩,if_pos (by omega),if_pos ⟨by omega,by omega,by rw [hlen];omega⟩,if_pos (by rw [hlen];omega),Nat.sub_zero,List.take_append_of_le_length (by rw [List.length_take];omega),List.take_take,Nat.min_self,i3]
  ·obtain ⟨i1,i2,i3,i4⟩:=hs
   have hJ:i0+1+k<l.length:=by omega
   have hJ2:i0+1+k<s.2.length:=by omega
   have eg:s.2.getD (i0+1+k) zEntry=l[i0+1+k]:=by
    have e1:(s.2.drop (i0+1+k))[0]?=(l.drop (i0+1+k))[0]?:=by rw [i4]
    rw [List.getElem?_drop,List.getElem?_drop,Nat.add_zero,List.getElem?_eq_getElem hJ,List.getElem?_eq_getElem hJ2] at e1
    rw [getD_lt hJ2]
    exact inj e1
   have e4:(s.2.drop (i0+1+k+1))=l.drop (i0+1+k+1):=by
    have:=congrArg (drop 1) i4
    rwa [List.drop_drop,List.drop_drop] at this
   have e3:(l.take (i0+1+k+1)).filter (fun x=>!p x)=(l.take (i0+1+k)).filter (fun x=>!p x)++(if p l[i0+1+k]=true then [] else [l[i0+1+k]]):=by
    rw [List.take_add_one,List.getElem?_eq_getElem hJ,List.filter_append]
    by_cases q:p l[i0+1+k]=true
    ·simp [q]
    ·simp [q]
   simp only [F_slices_DeleteFunc_api_Entry_api_Entry_b1]
   rw [if_pos (by simp;omega),if_pos (by omega)]
   simp only [Int.toNat_natCast,Option.bind_some,wn (i:=i0+1+(k+1)) (x:=((i0+1+k:Nat):Int)+1) (by omega) (by omega)]
   have eg':s.2.getD (i0+1+k) S58.dflt=l[i0+1+k]:=eg
   rw [eg]
   by_cases q:p l[i0+1+k]=true
   ·rw [if_neg (by simp [q]),if_pos q]
    refine ⟨rfl,by omega,i2,?_,e4⟩
    rw [show i0+1+(k+1)=i0+1+k+1 from rfl,e3,if_pos q,List.append_nil];exact i3
   ·rw [if_pos (by simp [q]),if_neg q,if_pos (by omega),wn (i:=s.1+1) (x:=(s.1:Int)+1) (by omega) (by omega)]
    refine ⟨rfl,by show s.1+1<_;omega,by rw [List.length_set];exact i2,?_,?_⟩
    ·rw [show i0+1+(k+1)=i0+1+k+1 from rfl,e3,if_neg q,← i3]
     show take (s.1+1) (s.2.set s.1 _)=_
     rw [List.take_add_one,List.take_set,List.set_eq_of_length_le (by rw [List.length_take];omega),List.getElem?_set,if_pos rfl,if_pos (by omega)]
     rfl
    ·show drop (i0+1+k+1) (s.2.set s.1 _)=_
     rw [List.drop_set_of_lt (by omega),e4]
     rfl
  ·simp only [F_slices_DeleteFunc_api_Entry_api_Entry_b1]
   rw [if_neg (by rw [hs.2.1];simp;omega)]
  ·rw [List.take_add_one,List.getElem?_eq_getElem hi0,List.filter_append]
   rw [getD_lt hi0] at hp
   simp only [Nat.add_zero,Option.toList_some,List.filter_cons,hp,Bool.not_true,Bool.false_eq_true,if_false,List.filter_nil,List.append_nil]
   rw [List.filter_eq_self.2]
   intro x hx
   obtain ⟨j,hj,e⟩:=List.mem_iff_getElem.1 hx
   rw [List.length_take] at hj
   have:=hbefore j (by omega)
   rw [getD_lt (by omega)] at this
   rw [List.getElem_take] at e
   rw [← e,this];rfl
theorem del_Member {l:List TMember} {p:TMember→Bool} (h:l.length≤9000000):F_slices_DeleteFunc_api_Member_api_Member l (fun x=>some (p x))=some (l.filter fun x=>!p x):=by
 unfold F_slices_DeleteFunc_api_Member_api_Member
 rw [idx_Member h,Option.bind_some]
 cases hf:(List.range l.length).find? (fun k=>p (l.getD k zMember)) with
 | none =>
  dsimp only
  rw [if_pos (by decide)]
  rw [List.find?_eq_none] at hf
  rw [List.filter_eq_self.2]
  intro x hx
  obtain ⟨j,hj,e⟩:=List.mem_iff_getElem.1 hx
  have:=hf j (List.mem_range.2 hj)
  rw [getD_lt hj,e] at this
  simpa using this
 | some i0 =>
  have hp:=List.find?_some hf
  have hi0:=List.mem_range.1 (List.mem_of_find?_eq_some hf)
  have hbefore:∀j,j<i0→p (l.getD j zMember)=false:=by
   intro j hj
   rw [List.find?_eq_some_iff_append] at hf
   obtain ⟨_,q1,q2,e,hn⟩:=hf
   have hlen:q1.length=i0:=by
    have e1:(List.range l.length)[q1.length]?=some i0:=by rw [e];simp
    rw [List.getElem?_range] at e1
    ·exact inj e1
    ·have:=congrArg length e;simp at this;omega
   have hj2:j∈q1:=by
    have e1:(List.range l.length)[j]?=some j:=List.getElem?_range (by omega)
    rw [e,List.getElem?_append_left (by omega)] at e1
    exact List.mem_of_getElem? e1
   simpa using hn j hj2
  dsimp only
  rw [if_neg (by simp)]
  have hl:=loop_for (N:=l.length-(i0+1)) (mk:=fun (k:Nat) (s:Nat×List TMember)=>((s.1:Int),((i0+1+k:Nat):Int),s.2)) (body:=F_slices_DeleteFunc_api_Member_api_Member_b1 (fun x=>some (p x)))
   (fun k s=>if p (s.2.getD (i0+1+k) zMember)=true then s else (s.1+1,s.2.set s.1 (s.2.getD (i0+1+k) zMember))) (fun s=>((s.1:Int),s.2))
   (fun k s=>s.1<i0+1+k∧s.2.length=l.length∧s.2.take s.1=(l.take (i0+1+k)).filter (fun x=>!p x)∧s.2.drop (i0+1+k)=l.drop (i0+1+k))
   (fun k s hk hs=>?_) (fun s hs=>?_) (s:=(i0,l)) ⟨by omega,rfl,?_,rfl⟩
  ·obtain ⟨e,i1,i2,i3,i4⟩:=hl
   rw [wn (i:=i0+1+0) (by omega) (by omega)]
   rw [e,Option.bind_some]
   generalize forN _ _ _=r at i1 i2 i3 i4
   have hN:i0+1+(l.length-(i0+1))=l.length:=by omega
   rw [hN] at i1 i3
   rw [List.take_of_length_le (Nat.le_refl _)] at i3
   simp only [Int.toNat_natCast]
   have hlen:(take r.1 r.2++(replicate (length r.2-r.1) (S43.dflt)++drop (r.1+(length r.2-r.1)) r.2)).length=l.length:=by
    simp only [List.length_append,List.length_take,List.length_replicate,List.length_drop];omega
   rw [if_pos ⟨by omega,by omega,by omega⟩,if_pos (by omega),if_pos ⟨by omega,by omega,by rw [hlen];omega⟩,if_pos (by rw [hlen];omega),Nat.sub_zero,List.take_append_of_le_length (by rw [List.length_take];omega),List.take_take,Nat.min_self,i3]
  ·obtain ⟨i1,i2,i3,i4⟩:=hs
   have hJ:i0+1+k<l.length:=by omega
   have hJ2:i0+1+k<s.2.length:=by omega
   have eg:s.2.getD (i0+1+k) zMember=l[i0+1+k]:=by
    have e1:(s.2.drop (i0+1+k))[0]?=(l.drop (i0+1+k))[0]?:=by rw [i4]
    rw [List.getElem?_drop,List.getElem?_drop,Nat.add_zero,List.getElem?_eq_getElem hJ,List.getElem?_eq_getElem hJ2] at e1
    rw [getD_lt hJ2]
    exact inj e1
   have e4:(s.2.drop (i0+1+k+1))=l.drop (i0+1+k+1):=by
    have:=congrArg (drop 1) i4
    rwa [List.drop_drop,List.drop_drop] at this
   have e3:(l.take (i0+1+k+1)).filter (fun x=>!p x)=(l.take (i0+1+k)).filter (fun x=>!p x)++(if p l[i0+1+k]=true then [] else [l[i0+1+k]]):=by
    rw [List.take_add_one,List.getElem?_eq_getElem hJ,List.filter_append]
    by_cases q:p l[i0+1+k]=true
    ·simp [q]
    ·simp [q]
   simp only [F_slices_DeleteFunc_api_Member_api_Member_b1]
   rw [if_pos (by simp;omega),if_pos (by omega)]
   simp only [Int.toNat_natCast,Option.bind_some,wn (i:=i0+1+(k+1)) (x:=((i0+1+k:Nat):Int)+1) (by omega) (by omega)]
   have eg':s.2.getD (i0+1+k) S43.dflt=l[i0+1+k]:=eg
   rw [eg]
   by_cases q:p l[i0+1+k]=true
   ·rw [if_neg (by simp [q]),if_pos q]
    refine ⟨rfl,by omega,i2,?_,e4⟩
    rw [show i0+1+(k+1)=i0+1+k+1 from rfl,e3,if_pos q,List.append_nil];exact i3
   ·rw [if_pos (by simp [q]),if_neg q,if_pos (by omega),wn (i:=s.1+1) (x:=(s.1:Int)+1) (by omega) (by omega)]
    refine ⟨rfl,by show s.1+1<_;omega,by rw [List.length_set];exact i2,?_,?_⟩
    ·rw [show i0+1+(k+1)=i0+1+k+1 from rfl,e3,if_neg q,← i3]
     show take (s.1+1) (s.2.set s.1 _)=_
     rw [List.take_add_one,List.take_set,List.set_eq_of_length_le (by rw [List.length_take];omega),List.getElem?_set,if_pos rfl,if_pos (by omega)]
     rfl
    ·show drop (i0+1+k+1) (s.2.set s.1 _)=_
     rw [List.drop_set_of_lt (by omega),e4]
     rfl
  ·simp only [F_slices_DeleteFunc_api_Member_api_Member_b1]
   rw [if_neg (by rw [hs.2.1];simp;omega)]
  ·rw [List.take_add_one,List.getElem?_eq_getElem hi0,List.filter_append]
   rw [getD_lt hi0] at hp
   simp only [Nat.add_zero,Option.toList_some,List.filter_cons,hp,Bool.not_true,Bool.false_eq_true,if_false,List.filter_nil,List.append_nil]
   rw [List.filter_eq_self.2]
   intro x hx
   obtain ⟨j,hj,e⟩:=List.mem_iff_getElem.1 hx
   rw [List.length_take] at hj
   have:=hbefore j (by omega)
   rw [getD_lt (by omega)] at this
   rw [List.getElem_take] at e
   rw [← e,this];rfl
theorem del_Right {l:List TRight} {p:TRight→Bool} (h:l.length≤9000000):F_slices_DeleteFunc_api_Right_api_Right l (fun x=>some (p x))=some (l.filter fun x=>!p x):=by
 unfold F_slices_DeleteFunc_api_Right_api_Right
 rw [idx_Right h,Option.bind_some]
 cases hf:(List.range l.length).find? (fun k=>p (l.getD k zRight)) with
 | none =>
  dsimp only
  rw [if_pos (by decide)]
  rw [List.find?_eq_none] at hf
  rw [List.filter_eq_self.2]
  intro x hx
  obtain ⟨j,hj,e⟩:=List.mem_iff_getElem.1 hx
  have:=hf j (List.mem_range.2 hj)
  rw [getD_lt hj,e] at this
  simpa using this
 | some i0 =>
  have hp:=List.find?_some hf
  have hi0:=List.mem_range.1 (List.mem_of_find?_eq_some hf)
  have hbefore:∀j,j<i0→p (l.getD j zRight)=false:=by
   intro j hj
   rw [List.find?_eq_some_iff_append] at hf
   obtain ⟨_,q1,q2,e,hn⟩:=hf
   have hlen:q1.length=i0:=by
    have e1:(List.range l.length)[q1.length]?=some i0:=by rw [e];simp
    rw [List.getElem?_range] at e1
    ·exact inj e1
    ·have:=congrArg length e;simp at this;omega
   have hj2:j∈q1:=by
    have e1:(List.range l.length)[j]?=some j:=List.getElem?_range (by omega)
    rw [e,List.getElem?_append_left (by omega)] at e1
    exact List.mem_of_getElem? e1
   simpa using hn j hj2
  dsimp only
  rw [if_neg (by simp)]
  have hl:=loop_for (N:=l.length-(i0+1)) (mk:=fun (k:Nat) (s:Nat×List TRight)=>((s.1:Int),((i0+1+k:Nat):Int),s.2)) (body:=F_slices_DeleteFunc_api_Right_api_Right_b1 (fun x=>some (p x)))
   (fun k s=>if p (s.2.getD (i0+1+k) zRight)=true then s else (s.1+1,s.2.set s.1 (s.2.getD (i0+1+k) zRight))) (fun s=>((s.1:Int),s.2))
   (fun k s=>s.1<i0+1+k∧s.2.length=l.length∧s.2.take s.1=(l.take (i0+1+k)).filter (fun x=>!p x)∧s.2.drop (i0+1+k)=l.drop (i0+1+k))
   (fun k s hk hs=>?_) (fun s hs=>?_) (s:=(i0,l)) ⟨by omega,rfl,?_,rfl⟩
  ·obtain ⟨e,i1,i2,i3,i4⟩:=hl
   rw [wn (i:=i0+1+0) (by omega) (by omega)]
   rw [e,Option.bind_some]
   generalize forN _ _ _=r at i1 i2 i3 i4
   have hN:i0+1+(l.length-(i0+1))=l.length:=by omega
   rw [hN] at i1 i3
   rw [List.take_of_length_le (Nat.le_refl _)] at i3
   simp only [Int.toNat_natCast]
   have hlen:(take r.1 r.2++(replicate (length r.2-r.1) (S56.dflt)++drop (r.1+(length r.2-r.1)) r.2)).length=l.length:=by
    simp only [List.length_append,List.length_take,List.length_replicate,List.length_drop];omega
   rw [if_pos ⟨by omega,by omega,by omega⟩,if_pos (by omega),if_pos ⟨by omega,by omega,by rw [hlen];omega⟩,if_pos (by rw [hlen];omega),Nat.sub_zero,List.take_append_of_le_length (by rw [List.length_take];omega),List.take_take,Nat.min_self,i3]
  ·obtain ⟨i1,i2,i3,i4⟩:=hs
   have hJ:i0+1+k<l.length:=by omega
   have hJ2:i0+1+k<s.2.length:=by omega
   have eg:s.2.getD (i0+1+k) zRight=l[i0+1+k]:=by
    have e1:(s.2.drop (i0+1+k))[0]?=(l.drop (i0+1+k))[0]?:=by rw [i4]
    rw [List.getElem?_drop,List.getElem?_drop,Nat.add_zero,List.getElem?_eq_getElem hJ,List.getElem?_eq_getElem hJ2] at e1
    rw [getD_lt hJ2]
    exact inj e1
   have e4:(s.2.drop (i0+1+k+1))=l.drop (i0+1+k+1):=by
    have:=congrArg (drop 1) i4
    rwa [List.drop_drop,List.drop_drop] at this
   have e3:(l.take (i0+1+k+1)).filter (fun x=>!p x)=(l.take (i0+1+k)).filter (fun x=>!p x)++(if p l[i0+1+k]=true then [] else [l[i0+1+k]]):=by
    rw [List.take_add_one,List.getElem?_eq_getElem hJ,List.filter_append]
    by_cases q:p l[i0+1+k]=true
    ·simp [q]
    ·simp [q]
   simp only [F_slices_DeleteFunc_api_Right_api_Right_b1]
   rw [if_pos (by simp;omega),if_pos (by omega)]
   simp only [Int.toNat_natCast,Option.bind_some,wn (i:=i0+1+(k+1)) (x:=((i0+1+k:Nat):Int)+1) (by omega) (by omega)]
   have eg':s.2.getD (i0+1+k) S56.dflt=l[i0+1+k]:=eg
   rw [eg]
   by_cases q:p l[i0+1+k]=true
   ·rw [if_neg (by simp [q]),if_pos q]
    refine ⟨rfl,by omega,i2,?_,e4⟩
    rw [show i0+1+(k+1)=i0+1+k+1 from rfl,e3,if_pos q,List.append_nil];exact i3
   ·rw [if_pos (by simp [q]),if_neg q,if_pos (by omega),wn (i:=s.1+1) (x:=(s.1:Int)+1) (by omega) (by omega)]
    refine ⟨rfl,by show s.1+1<_;omega,by rw [List.length_set];exact i2,?_,?_⟩
    ·rw [show i0+1+(k+1)=i0+1+k+1 from rfl,e3,if_neg q,← i3]
     show take (s.1+1) (s.2.set s.1 _)=_
     rw [List.take_add_one,List.take_set,List.set_eq_of_length_le (by rw [List.length_take];omega),List.getElem?_set,if_pos rfl,if_pos (by omega)]
     rfl
    ·show drop (i0+1+k+1) (s.2.set s.1 _)=_
     rw [List.drop_set_of_lt (by omega),e4]
     rfl
  ·simp only [F_slices_DeleteFunc_api_Right_api_Right_b1]
   rw [if_neg (by rw [hs.2.1];simp;omega)]
  ·rw [List.take_add_one,List.getElem?_eq_getElem hi0,List.filter_append]
   rw [getD_lt hi0] at hp
   simp only [Nat.add_zero,Option.toList_some,List.filter_cons,hp,Bool.not_true,Bool.false_eq_true,if_false,List.filter_nil,List.append_nil]
   rw [List.filter_eq_self.2]
   intro x hx
   obtain ⟨j,hj,e⟩:=List.mem_iff_getElem.1 hx
   rw [List.length_take] at hj
   have:=hbefore j (by omega)
   rw [getD_lt (by omega)] at this
   rw [List.getElem_take] at e
   rw [← e,this];rfl
theorem cut_Entry {l:List TEntry} {z:Nat} (hz:z<l.length) (h:l.length≤9000000):F_slices_Delete_api_Entry_api_Entry l (z:Int) ((z+1:Nat):Int)=some (l.take z++l.drop (z+1)):=by
 unfold F_slices_Delete_api_Entry_api_Entry
 simp only [Int.toNat_natCast,Nat.sub_zero,Nat.zero_add]
 have e1:take (l.length-(z+1)) (drop (z+1) l)=drop (z+1) l:=List.take_of_length_le (by rw [List.length_drop];exact Nat.le_refl _)
 simp only [e1,List.length_drop]
 have eA:(take z l++(drop (z+1) l++drop (z+(l.length-(z+1))) l)).length=l.length:=by
  simp only [List.length_append,List.length_take,List.length_drop];omega
 rw [if_pos ⟨by omega,by omega,by omega,by omega,by omega,Nat.le_refl _⟩,if_neg (by simp;omega),if_pos ⟨by omega,by omega,by omega⟩,if_pos ⟨by omega,by omega,Nat.le_refl _⟩,if_pos ⟨by omega,by omega⟩,
  if_pos ⟨by omega,by omega,by omega,by rw [eA];exact Nat.le_refl _⟩,if_pos (by rw [eA];omega)]
 have eT:take (z+(l.length-(z+1))) (take z l++(drop (z+1) l++drop (z+(l.length-(z+1))) l))=take z l++drop (z+1) l:=by
  rw [← List.append_assoc]
  exact List.take_left' (by simp only [List.length_append,List.length_take,List.length_drop];omega)
 rw [eT]
 have eL:(take z l++drop (z+1) l).length=z+(l.length-(z+1)):=by simp only [List.length_append,List.length_take,List.length_drop];omega
 rw [if_pos (by rw [List.length_append,eL];omega),List.take_left' eL]
theorem cut_Session {l:List TSession} {z:Nat} (hz:z<l.length) (h:l.length≤9000000):F_slices_Delete_api_Session_api_Session l (z:Int) ((z+1:Nat):Int)=some (l.take z++l.drop (z+1)):=by
 unfold F_slices_Delete_api_Session_api_Session
 simp only [Int.toNat_natCast,Nat.sub_zero,Nat.zero_add]
 have e1:take (l.length-(z+1)) (drop (z+1) l)=drop (z+1) l:=List.take_of_length_le (by rw [List.length_drop];exact Nat.le_refl _)
 simp only [e1,List.length_drop]
 have eA:(take z l++(drop (z+1) l++drop (z+(l.length-(z+1))) l)).length=l.length:=by
  simp only [List.length_append,List.length_take,List.length_drop];omega
 rw [if_pos ⟨by omega,by omega,by omega,by omega,by omega,Nat.le_refl _⟩,if_neg (by simp;omega),if_pos ⟨by omega,by omega,by omega⟩,if_pos ⟨by omega,by omega,Nat.le_refl _⟩,if_pos ⟨by omega,by omega⟩,
  if_pos ⟨by omega,by omega,by omega,by rw [eA];exact Nat.le_refl _⟩,if_pos (by rw [eA];omega)]
 have eT:take (z+(l.length-(z+1))) (take z l++(drop (z+1) l++drop (z+(l.length-(z+1))) l))=take z l++drop (z+1) l:=by
  rw [← List.append_assoc]
  exact List.take_left' (by simp only [List.length_append,List.length_take,List.length_drop];omega)
 rw [eT]
 have eL:(take z l++drop (z+1) l).length=z+(l.length-(z+1)):=by simp only [List.length_append,List.length_take,List.length_drop];omega
 rw [if_pos (by rw [List.length_append,eL];omega),List.take_left' eL]
theorem loop_inv {S τ:Type} {N:Nat} {body:S→Option (S⊕τ)} (Inv:Nat→S→Prop) (Q:τ→Prop) (h1:∀i s,i<N→Inv i s→∃s',body s=some (.inl s')∧Inv (i+1) s') (h2:∀s,Inv N s→∃r,body s=some (.inr r)∧Q r) {s:S} (h0:Inv 0 s):∃r,loopO body s=some r∧Q r:=by
 have key:∀j k s,k+j=N→Inv k s→∃r,loopO body s=some r∧Q r:=by
  intro j
  induction j with
  | zero =>
   intro k s hk hi
   obtain rfl:k=N:=by omega
   obtain ⟨r,e,q⟩:=h2 s hi
   exact ⟨r,loopO_end e,q⟩
  | succ j ih =>
   intro k s hk hi
   obtain ⟨s',e,hi'⟩:=h1 k s (by omega) hi
   rw [loopO_go e]
   exact ih (k+1) s' (by omega) hi'
 exact key N 0 s (by omega) h0
theorem loop_any_ex {S τ:Type} {N:Nat} {mk:Nat→S} {body:S→Option (S⊕τ)} (h1:∀i,i<N→(∃r,body (mk i)=some (.inr r))∨body (mk i)=some (.inl (mk (i+1)))) (h2:∃r,body (mk N)=some (.inr r)):∃r,loopO body (mk 0)=some r∧True:=by
 have key:∀j k,k+j=N→∃r,loopO body (mk k)=some r∧True:=by
  intro j
  induction j with
  | zero =>
   intro k hk
   obtain rfl:k=N:=by omega
   obtain ⟨r,e⟩:=h2
   exact ⟨r,loopO_end e,trivial⟩
  | succ j ih =>
   intro k hk
   rcases h1 k (by omega) with ⟨r,e⟩|e
   ·exact ⟨r,loopO_end e,trivial⟩
   ·rw [loopO_go e]
    exact ih (k+1) (by omega)
 exact key N 0 (by omega)
abbrev errV (n:Int):Value:=.iface 131 (.agg #[.int .i64 n])
def Sp {α:Type} (o:Option (Value⊕α)) (Q:α→Prop):Prop:=(∃n:Int,1≤n∧n≤100000∧o=some (.inl (errV n)))∨∃y,o=some (.inr y)∧Q y
theorem Sp.bind {α β:Type} {o:Option (Value⊕α)} {Q:α→Prop} {R:β→Prop} {f:α→Option (Value⊕β)} (h:Sp o Q) (k:∀y,Q y→Sp (f y) R):Sp (o.bind (Sum.elim (fun e=>some (Sum.inl e)) f)) R:=by
 rcases h with ⟨n,h1,h2,rfl⟩|⟨y,rfl,q⟩
 ·exact .inl ⟨n,h1,h2,rfl⟩
 ·exact k y q
theorem Sp.ret {α:Type} {y:α} {Q:α→Prop} (h:Q y):Sp (some (Sum.inr y)) Q:=.inr ⟨y,rfl,h⟩
theorem Sp.mono {α:Type} {o:Option (Value⊕α)} {Q R:α→Prop} (h:Sp o Q) (k:∀y,Q y→R y):Sp o R:=by
 rcases h with h|⟨y,e,q⟩
 ·exact .inl h
 ·exact .inr ⟨y,e,k y q⟩
theorem sp_need {e:Int} (h0:0≤e) (h:e≤100000):Sp (F_lane_need e) fun _=>e=0:=by
 unfold F_lane_need
 by_cases h1:e=0
 ·subst h1;exact .inr ⟨(),rfl,rfl⟩
 ·rw [if_pos (by simp [h1])];exact .inl ⟨e,by omega,h,rfl⟩
theorem sp_refuse {b:Bool} {e:Int} (h0:1≤e) (h:e≤100000):Sp (F_lane_refuse b e) fun _=>b=false:=by
 unfold F_lane_refuse
 cases b with
 | true=>exact .inl ⟨e,h0,h,rfl⟩
 | false=>exact .inr ⟨(),rfl,rfl⟩
theorem toP {α:Type} {f:α→Option Bool} (h:∀x,∃b,f x=some b):∃p:α→Bool,f=fun x=>some (p x):=⟨fun x=>(f x).getD false,funext fun x=>by obtain ⟨b,e⟩:=h x;show f x=some ((f x).getD false);rw [e];rfl⟩
theorem find_cases {n:Nat} {p:Nat→Bool} {o:Option Nat} (h:(List.range n).find? p=o):(o=none∧∀i,i<n→p i=false)∨∃i,o=some i∧i<n∧p i=true:=by
 cases o with
 | none=>exact .inl ⟨rfl,fun i hi=>by have:=List.find?_eq_none.1 h i (List.mem_range.2 hi);simpa using this⟩
 | some i=>exact .inr ⟨i,rfl,List.mem_range.1 (List.mem_of_find?_eq_some h),List.find?_some h⟩
theorem ix_Right {l:List TRight} {p:TRight→Bool} (h:l.length≤9000000):(F_slices_IndexFunc_api_Right_api_Right l (fun x=>some (p x))=some (-1)∧∀i,i<l.length→p (l.getD i zRight)=false)∨∃i,F_slices_IndexFunc_api_Right_api_Right l (fun x=>some (p x))=some ((i:Nat):Int)∧i<l.length∧p (l.getD i zRight)=true:=by
 have:=idx_Right (l:=l) (p:=p) h
 rcases find_cases (n:=l.length) (p:=fun k=>p (l.getD k zRight)) rfl with ⟨e,q⟩|⟨i,e,q1,q2⟩
 ·rw [e] at this;exact .inl ⟨this,q⟩
 ·rw [e] at this;exact .inr ⟨i,this,q1,q2⟩
theorem ix_Session {l:List TSession} {p:TSession→Bool} (h:l.length≤9000000):(F_slices_IndexFunc_api_Session_api_Session l (fun x=>some (p x))=some (-1)∧∀i,i<l.length→p (l.getD i zSession)=false)∨∃i,F_slices_IndexFunc_api_Session_api_Session l (fun x=>some (p x))=some ((i:Nat):Int)∧i<l.length∧p (l.getD i zSession)=true:=by
 have:=idx_Session (l:=l) (p:=p) h
 rcases find_cases (n:=l.length) (p:=fun k=>p (l.getD k zSession)) rfl with ⟨e,q⟩|⟨i,e,q1,q2⟩
 ·rw [e] at this;exact .inl ⟨this,q⟩
 ·rw [e] at this;exact .inr ⟨i,this,q1,q2⟩
theorem ix_Entry {l:List TEntry} {p:TEntry→Bool} (h:l.length≤9000000):(F_slices_IndexFunc_api_Entry_api_Entry l (fun x=>some (p x))=some (-1)∧∀i,i<l.length→p (l.getD i zEntry)=false)∨∃i,F_slices_IndexFunc_api_Entry_api_Entry l (fun x=>some (p x))=some ((i:Nat):Int)∧i<l.length∧p (l.getD i zEntry)=true:=by
 have:=idx_Entry (l:=l) (p:=p) h
 rcases find_cases (n:=l.length) (p:=fun k=>p (l.getD k zEntry)) rfl with ⟨e,q⟩|⟨i,e,q1,q2⟩
 ·rw [e] at this;exact .inl ⟨this,q⟩
 ·rw [e] at this;exact .inr ⟨i,this,q1,q2⟩
theorem ix_Member {l:List TMember} {p:TMember→Bool} (h:l.length≤9000000):(F_slices_IndexFunc_api_Member_api_Member l (fun x=>some (p x))=some (-1)∧∀i,i<l.length→p (l.getD i zMember)=false)∨∃i,F_slices_IndexFunc_api_Member_api_Member l (fun x=>some (p x))=some ((i:Nat):Int)∧i<l.length∧p (l.getD i zMember)=true:=by
 have:=idx_Member (l:=l) (p:=p) h
 rcases find_cases (n:=l.length) (p:=fun k=>p (l.getD k zMember)) rfl with ⟨e,q⟩|⟨i,e,q1,q2⟩
 ·rw [e] at this;exact .inl ⟨this,q⟩
 ·rw [e] at this;exact .inr ⟨i,this,q1,q2⟩
theorem f_gives (n:Int):∃b,F_right_gives n=some b:=by
 unfold F_right_gives
 split<;>exact ⟨_,rfl⟩
theorem f_rfind {l:List TRight} (h:l.length≤9000000) (x:Int):(F_right_find l x=some (-1)∧∀i,i<l.length→(l.getD i zRight).1≠x)∨∃i,F_right_find l x=some ((i:Nat):Int)∧i<l.length∧(l.getD i zRight).1=x:=by
 unfold F_right_find
 have e:(fun y=>F_right_find_1 y x)=fun (y:TRight)=>some (y.1==x):=rfl
 rw [e]
 rcases ix_Right (p:=fun (y:TRight)=>y.1==x) h with ⟨k1,k2⟩|⟨i,k1,k2,k3⟩
 ·rw [k1]
  exact .inl ⟨rfl,fun i hi=>by have:=k2 i hi;simpa using this⟩
 ·rw [k1]
  exact .inr ⟨i,rfl,k2,by simpa using k3⟩
theorem f_Check {l:List TRight} (h:l.length≤9000000) (x want:Int):F_right_Check l x want=some (0,160)∨∃i,i<l.length∧F_right_Check l x want=some ((l.getD i zRight).2.1,0)∧(l.getD i zRight).2.2.2=false:=by
 unfold F_right_Check
 rcases f_rfind h x with ⟨e,_⟩|⟨i,e,hi,hx⟩
 ·left
  rw [e]
  rfl
 ·rw [e,Option.bind_some,if_neg (by simp),if_pos (by omega),Int.toNat_natCast]
  obtain ⟨b,hb⟩:=f_gives want
  cases hr:(l.getD i zRight).2.2.2 with
  | true=>left;rfl
  | false =>
   rw [hb]
   cases b with
   | false=>left;rfl
   | true =>
    simp only [Bool.false_eq_true,if_false,Option.bind_some,Bool.not_true]
    rw [if_pos (by omega)]
    simp only [Option.bind_some]
    split
    ·left;rfl
    ·right
     exact ⟨i,hi,if_pos (by omega),hr⟩
theorem f_Mint {l:List TRight} (h:l.length≤3000000) (x s g:Int):∃c,(c=1∨c=161)∧F_right_Mint l x s g=some ([],c)∨(F_right_Mint l x s g=some (l++[(x,s,g,false)],0)∧l.length<16∧∀i,i<l.length→(l.getD i zRight).1≠x):=by
 unfold F_right_Mint
 by_cases h0:x=0
 ·subst h0;exact ⟨1,.inl ⟨.inl rfl,rfl⟩⟩
 ·rw [if_neg (by simp [h0])]
  obtain ⟨b,hb⟩:=f_gives g
  rw [hb,Option.bind_some]
  cases b with
  | false=>exact ⟨1,.inl ⟨.inl rfl,rfl⟩⟩
  | true =>
   rw [if_neg (by simp)]
   rcases f_rfind (l:=l) (by omega) x with ⟨e,q⟩|⟨i,e,hi,hx⟩
   ·rw [e]
    simp only [Option.bind_some]
    rw [if_neg (by simp)]
    by_cases h16:l.length<16
    ·refine ⟨0,.inr ⟨?_,h16,q⟩⟩
     rw [if_neg (by simp;omega),clone_Right (by omega),Option.bind_some,if_pos ⟨by omega,by simp [maxLen];omega⟩]
    ·refine ⟨161,.inl ⟨.inr rfl,?_⟩⟩
     rw [if_pos (by simp;omega)]
   ·rw [e]
    exact ⟨1,.inl ⟨.inl rfl,by simp⟩⟩
theorem f_Revoke {l:List TRight} (h:l.length≤3000000) (x:Int):∃t c,F_right_Revoke l x=some (t,c)∧(c=0∨c=160):=by
 unfold F_right_Revoke
 rcases f_rfind (l:=l) (by omega) x with ⟨e,q⟩|⟨i,e,hi,hx⟩
 ·rw [e];exact ⟨_,_,rfl,.inr rfl⟩
 ·rw [e,Option.bind_some,if_neg (by simp),if_pos (by omega),Option.bind_some]
  split
  ·exact ⟨_,_,rfl,.inr rfl⟩
  ·rw [clone_Right (by omega),Option.bind_some,if_pos (by omega)]
   exact ⟨_,_,rfl,.inl rfl⟩
theorem f_Drop {l:List TRight} (h:l.length≤3000000) (x:Int):F_right_Drop l x=some (l.filter fun y=>!(y.2.1==x)):=by
 unfold F_right_Drop
 rw [clone_Right (by omega),Option.bind_some]
 have e:(fun y=>F_right_Drop_1 y x)=fun (y:TRight)=>some (y.2.1==x):=rfl
 rw [e,del_Right (by omega)]
 rfl
abbrev RoT:=S26.ty
theorem f_ofind {r:RoT} (h:r.2.length≤9000000) (x:Int):(F_roster_find r x=some (-1)∧∀i,i<r.2.length→(r.2.getD i zSession).1≠x)∨∃i,F_roster_find r x=some ((i:Nat):Int)∧i<r.2.length∧(r.2.getD i zSession).1=x:=by
 unfold F_roster_find
 have e:(fun y=>F_roster_find_1 y x)=fun (y:TSession)=>some (y.1==x):=rfl
 rw [e]
 rcases ix_Session (p:=fun (y:TSession)=>y.1==x) h with ⟨k1,k2⟩|⟨i,k1,k2,k3⟩
 ·rw [k1]
  exact .inl ⟨rfl,fun i hi=>by have:=k2 i hi;simpa using this⟩
 ·rw [k1]
  exact .inr ⟨i,rfl,k2,by simpa using k3⟩
theorem f_copied {r:RoT} (h:r.2.length≤3000000):F_roster_copied r=some r:=by
 unfold F_roster_copied
 rw [clone_Session (by omega)]
 rfl
theorem f_Open {r:RoT} (h:r.2.length≤3000000):F_roster_Open r=some ((0,[]),0,161)∨F_roster_Open r=some ((wrap .u64 (r.1+1),r.2++[(wrap .u64 (r.1+1),0)]),wrap .u64 (r.1+1),0):=by
 unfold F_roster_Open
 by_cases h4:r.2.length<4
 ·rw [if_neg (by simp;omega),Option.bind_some]
  split
  ·exact .inl rfl
  ·right
   rw [f_copied h,Option.bind_some,if_pos ⟨by omega,by simp [maxLen];omega⟩]
 ·left
  rw [if_pos (by simp;omega)]
  rfl
theorem f_Close {r:RoT} (h:r.2.length≤3000000) (x:Int):F_roster_Close r x=some ((0,[]),162)∨∃r':RoT,F_roster_Close r x=some (r',0)∧r'.2.length≤r.2.length:=by
 unfold F_roster_Close
 rcases f_ofind (r:=r) (by omega) x with ⟨e,q⟩|⟨i,e,hi,hx⟩
 ·left;rw [e];rfl
 ·right
  rw [e,Option.bind_some,if_neg (by simp),f_copied h,Option.bind_some,wi (by omega),cut_Session hi (by omega)]
  exact ⟨_,rfl,by simp;omega⟩
theorem f_Next {r:RoT} (h:r.2.length≤3000000) (x:Int):F_roster_Next r x=some ((0,[]),0,162)∨∃r':RoT,∃n,F_roster_Next r x=some (r',n,0)∧r'.2.length=r.2.length:=by
 unfold F_roster_Next
 rcases f_ofind (r:=r) (by omega) x with ⟨e,q⟩|⟨i,e,hi,hx⟩
 ·left;rw [e];rfl
 ·rw [e,Option.bind_some,if_neg (by simp),if_pos (by omega),Option.bind_some]
  split
  ·exact .inl rfl
  ·right
   rw [f_copied h,Option.bind_some,if_pos (by omega),if_pos (by omega),if_pos (by rw [List.length_set];omega)]
   exact ⟨_,_,rfl,by simp⟩
theorem f_nanI (x:Int):F_cmp_isNaN_int x=some false:=by unfold F_cmp_isNaN_int;simp
theorem f_nanU (x:Int):F_cmp_isNaN_uint64 x=some false:=by unfold F_cmp_isNaN_uint64;simp
theorem f_cmpI (x y:Int):∃c,F_cmp_Compare_int x y=some c:=by
 unfold F_cmp_Compare_int
 rw [f_nanI,f_nanI]
 simp only [Option.bind_some,Bool.false_eq_true,if_false]
 split
 ·exact ⟨_,rfl⟩
 ·split<;>exact ⟨_,rfl⟩
theorem f_cmpU (x y:Int):∃c,F_cmp_Compare_uint64 x y=some c:=by
 unfold F_cmp_Compare_uint64
 rw [f_nanU,f_nanU]
 simp only [Option.bind_some,Bool.false_eq_true,if_false]
 split
 ·exact ⟨_,rfl⟩
 ·split<;>exact ⟨_,rfl⟩
theorem f_or (a b c:Int):∃d,F_cmp_Or_int [a,b,c]=some d:=by
 unfold F_cmp_Or_int
 obtain ⟨r,e,_⟩:=loop_any_ex (N:=3) (body:=F_cmp_Or_int_b1 [a,b,c]) (mk:=fun (k:Nat)=>(k:Int)) (fun i hi=>by
  simp only [F_cmp_Or_int_b1]
  rw [if_pos (by simp;omega),if_pos (by simp;omega)]
  split
  ·exact .inl ⟨_,rfl⟩
  ·exact .inr (by rw [wi (by omega)])) ⟨_,by simp only [F_cmp_Or_int_b1];rw [if_neg (by simp)]⟩
 have e:loopO (F_cmp_Or_int_b1 [a,b,c]) 0=some r:=e
 rw [e]
 cases r<;>exact ⟨_,rfl⟩
theorem f_Less (a b:TMember):∃c,F_group_Less a b=some c:=by
 unfold F_group_Less F_group_compare
 obtain ⟨x,ex⟩:=f_cmpI a.1 b.1
 obtain ⟨y,ey⟩:=f_cmpI a.2.1 b.2.1
 obtain ⟨z,ez⟩:=f_cmpU a.2.2 b.2.2
 obtain ⟨d,ed⟩:=f_or x y z
 rw [ex,ey,ez]
 simp only [Option.bind_some,ed]
 exact ⟨_,rfl⟩
theorem f_cont {l:List TMember} (h:l.length≤9000000) (x:TMember):∃b,F_slices_Contains_api_Member_api_Member l x=some b:=by
 unfold F_slices_Contains_api_Member_api_Member F_slices_Index_api_Member_api_Member
 obtain ⟨r,e,_⟩:=loop_any_ex (N:=l.length) (body:=F_slices_Index_api_Member_api_Member_b1 l x) (mk:=fun (k:Nat)=>(k:Int)) (fun i hi=>by
  simp only [F_slices_Index_api_Member_api_Member_b1]
  rw [if_pos (by simp;omega),if_pos (by omega)]
  split
  ·exact .inl ⟨_,rfl⟩
  ·exact .inr (by rw [wi (by omega)])) ⟨_,by simp only [F_slices_Index_api_Member_api_Member_b1];rw [if_neg (by simp)]⟩
 have e:loopO (F_slices_Index_api_Member_api_Member_b1 l x) 0=some r:=e
 rw [e]
 cases r<;>exact ⟨_,rfl⟩
abbrev WkT:=S88.ty
abbrev LnT:=S38.ty
def Bd (n:Nat) (w:WkT):Prop:=w.1.2.2.2.2.1.2.length≤n∧w.1.2.2.2.2.2.1.length≤n∧w.1.2.2.2.2.2.2.1.length≤n∧w.1.2.2.2.2.2.2.2.1.length≤n∧w.1.2.2.2.2.2.2.2.2.1.length≤n
abbrev aud (w:WkT):=w.1.2.2.2.2.2.2.2.2.2.2.2.2.2.2.2
abbrev rig (w:WkT):=w.1.2.2.2.2.2.1
abbrev ses (w:WkT):=w.2.2.1
theorem Bd.up {n m:Nat} {w:WkT} (h:Bd n w) (k:n≤m):Bd m w:=⟨Nat.le_trans h.1 k,Nat.le_trans h.2.1 k,Nat.le_trans h.2.2.1 k,Nat.le_trans h.2.2.2.1 k,Nat.le_trans h.2.2.2.2 k⟩
theorem sp_may {w:WkT} {n:Nat} (h:Bd n w) (hn:n≤3000000) (g:Int):Sp (F_lane_work_may w g) fun w'=>w'.1=w.1∧w'.2.1=w.2.1∧w'.2.2.2=w.2.2.2∧∃i,i<(rig w).length∧((rig w).getD i zRight).2.1=ses w'∧((rig w).getD i zRight).2.2.2=false:=by
 unfold F_lane_work_may
 rcases f_Check (l:=w.1.2.2.2.2.2.1) (by have:=h.2.1;omega) w.2.1.2.1 g with e|⟨i,hi,e,hr⟩
 ·rw [e,Option.bind_some]
  refine Sp.bind (sp_need (e:=160) (by decide) (by decide)) fun y hy=>?_
  cases hy
 ·rw [e,Option.bind_some]
  refine (sp_need (e:=0) (by decide) (by decide)).bind fun y hy=>Sp.ret ⟨rfl,rfl,rfl,i,hi,rfl,hr⟩
theorem f_handle (w:WkT):∃h u,F_lane_work_handle w=some (h,(w.1.1,w.1.2.1,w.1.2.2.1,u,w.1.2.2.2.2),w.2):=by
 unfold F_lane_work_handle
 by_cases h1:w.1.2.2.2.1≥0
 ·rw [if_pos (by simpa using h1),Option.bind_some]
  by_cases h2:w.1.2.2.2.1<((length w.1.2.2.1:Nat):Int)
  ·rw [if_pos (by simpa using h2),if_pos ⟨h1,h2⟩]
   exact ⟨_,_,rfl⟩
  ·rw [if_neg (by simpa using h2)]
   exact ⟨_,_,rfl⟩
 ·rw [if_neg (by simpa using h1),Option.bind_some,if_neg (by decide)]
  exact ⟨_,_,rfl⟩
theorem sp_mint {w:WkT} {n:Nat} (h:Bd n w) (hn:n≤3000000) (s g:Int):Sp (F_lane_work_mint w s g) fun w'=>∃x u,w'=((w.1.1,w.1.2.1,w.1.2.2.1,u,w.1.2.2.2.2.1,rig w++[(x,s,g,false)],w.1.2.2.2.2.2.2),w.2.1,w.2.2.1,w.2.2.2.1,w.2.2.2.2.1,x,w.2.2.2.2.2.2)∧∀i,i<(rig w).length→((rig w).getD i zRight).1≠x:=by
 unfold F_lane_work_mint
 obtain ⟨x,u,e⟩:=f_handle w
 rw [e,Option.bind_some]
 obtain ⟨c,hc⟩:=f_Mint (l:=w.1.2.2.2.2.2.1) (by have:=h.2.1;omega) x s g
 rcases hc with ⟨hc,e2⟩|⟨e2,h16,hx⟩
 ·have e2:F_right_Mint (((w.1.1,w.1.2.1,w.1.2.2.1,u,w.1.2.2.2.2),w.2):WkT).1.2.2.2.2.2.1 x s g=some ([],c):=e2
  rw [e2,Option.bind_some]
  refine Sp.bind (sp_need (e:=c) (by omega) (by omega)) fun y hy=>?_
  omega
 ·have e2:F_right_Mint (((w.1.1,w.1.2.1,w.1.2.2.1,u,w.1.2.2.2.2),w.2):WkT).1.2.2.2.2.2.1 x s g=some (w.1.2.2.2.2.2.1++[(x,s,g,false)],0):=e2
  rw [e2,Option.bind_some]
  exact (sp_need (e:=0) (by decide) (by decide)).bind fun y hy=>Sp.ret ⟨x,u,rfl,hx⟩
theorem sp_open {w:WkT} {n:Nat} (h:Bd n w) (hn:n≤3000000):Sp (F_lane_work_open w) fun w'=>aud w'=aud w∧w'.2.2.2.1=w.2.2.2.1∧∃x s g,rig w'=rig w++[(x,s,g,false)]∧w'.2.2.2.2.2.1=x∧(∀i,i<(rig w).length→((rig w).getD i zRight).1≠x)∧w'.1.2.2.2.2.1.2.length=w.1.2.2.2.2.1.2.length+1:=by
 unfold F_lane_work_open
 rcases f_Open (r:=w.1.2.2.2.2.1) (by have:=h.1;omega) with e|e
 ·rw [e,Option.bind_some]
  refine Sp.bind (sp_need (e:=161) (by decide) (by decide)) fun y hy=>?_
  cases hy
 ·rw [e,Option.bind_some]
  refine (sp_need (e:=0) (by decide) (by decide)).bind fun y hy=>(sp_mint h hn _ 7).bind fun w' hw=>?_
  obtain ⟨x,u,rfl,hx⟩:=hw
  exact Sp.ret ⟨rfl,rfl,x,_,_,rfl,rfl,hx,by simp⟩
theorem f_cancel {w:WkT} {n:Nat} (h:Bd n w) (hn:n≤3000000) (k g:Int):∃b c,F_lane_work_cancel w k g=some (b,(w.1.1,w.1.2.1,w.1.2.2.1,w.1.2.2.2.1,w.1.2.2.2.2.1,w.1.2.2.2.2.2.1,w.1.2.2.2.2.2.2.1,c,w.1.2.2.2.2.2.2.2.2),w.2)∧c.length≤n:=by
 unfold F_lane_work_cancel
 obtain ⟨p,hp⟩:=toP (f:=fun x=>F_lane_work_cancel_1 x k g w) (fun x=>by unfold F_lane_work_cancel_1;split<;>(try split)<;>exact ⟨_,rfl⟩)
 rw [hp]
 have hl:=h.2.2.2.1
 rcases ix_Entry (l:=w.1.2.2.2.2.2.2.2.1) (p:=p) (by omega) with ⟨e,_⟩|⟨i,e,hi,_⟩
 ·rw [e]
  exact ⟨false,w.1.2.2.2.2.2.2.2.1,rfl,hl⟩
 ·rw [e,Option.bind_some,if_neg (by simp),wi (by omega),cut_Entry hi (by omega)]
  exact ⟨true,_,rfl,by simp;omega⟩
theorem f_control {w:WkT} {n:Nat} (h:Bd n w) (hn:n≤3000000) (k o g:Int):∃c,F_lane_work_control w k o g=some ((w.1.1,w.1.2.1,w.1.2.2.1,w.1.2.2.2.1,w.1.2.2.2.2.1,w.1.2.2.2.2.2.1,w.1.2.2.2.2.2.2.1,c,w.1.2.2.2.2.2.2.2.2),w.2)∧c.length≤n+1:=by
 unfold F_lane_work_control
 obtain ⟨b,c,e,hc⟩:=f_cancel h hn o g
 rw [e,Option.bind_some]
 cases b with
 | true=>exact ⟨c,rfl,by omega⟩
 | false =>
  exact ⟨_,(if_pos (show (!false)=true from rfl)).trans (if_pos ⟨by show (c.length+1)*56≤_;omega,by show c.length+1≤_;simp [maxLen];omega⟩),by simp;omega⟩
theorem f_depart {w:WkT} {n:Nat} (h:Bd n w) (hn:n≤3000000) (g:Int):∃t c,F_lane_work_depart w g=some ((w.1.1,w.1.2.1,w.1.2.2.1,w.1.2.2.2.1,w.1.2.2.2.2.1,w.1.2.2.2.2.2.1,t,c,w.1.2.2.2.2.2.2.2.2),w.2)∧c.length≤n+1∧t.length≤n:=by
 unfold F_lane_work_depart F_lane_work_member
 rw [Option.bind_some]
 have e:(fun x=>F_lane_work_depart_1 x (g,w.1.2.1,w.2.2.1))=fun (x:TMember)=>some (Sh.eqb S43 x (g,w.1.2.1,w.2.2.1)):=rfl
 have hl:=h.2.2.1
 rw [e,del_Member (by omega),Option.bind_some]
 have hf:=List.length_filter_le (fun (x:TMember)=>!Sh.eqb S43 x (g,w.1.2.1,w.2.2.1)) w.1.2.2.2.2.2.2.1
 obtain ⟨c,e2,hc⟩:=f_control (w:=((w.1.1,w.1.2.1,w.1.2.2.1,w.1.2.2.2.1,w.1.2.2.2.2.1,w.1.2.2.2.2.2.1,List.filter (fun (x:TMember)=>!Sh.eqb S43 x (g,w.1.2.1,w.2.2.1)) w.1.2.2.2.2.2.2.1,w.1.2.2.2.2.2.2.2),w.2)) (n:=n) ⟨h.1,h.2.1,by show length (List.filter _ _)≤n;omega,h.2.2.2.1,h.2.2.2.2⟩ hn 3 2 g
 rw [e2]
 exact ⟨_,c,rfl,hc,Nat.le_trans hf hl⟩
theorem f_wants {w:WkT} {n:Nat} (h:Bd n w) (hn:n≤3000000):∃b,F_lane_work_wants w=some b:=by
 unfold F_lane_work_wants F_lane_work_member
 rw [Option.bind_some]
 obtain ⟨b,e⟩:=f_cont (l:=w.1.2.2.2.2.2.2.1) (by have:=h.2.2.1;omega) (w.2.1.2.2.2.2.1,w.1.2.1,w.2.2.1)
 rw [e]
 exact ⟨b,rfl⟩
def For (w w':WkT):Prop:=aud w'=aud w∧w'.2.2.2.1=w.2.2.2.1∧∃i,i<(rig w).length∧((rig w).getD i zRight).2.1=ses w'∧((rig w).getD i zRight).2.2.2=false
theorem sp_grant {w:WkT} {n:Nat} (h:Bd n w) (hn:n≤3000000):Sp (F_lane_work_grant w) (For w):=by
 unfold F_lane_work_grant
 refine (sp_may h hn 1).bind fun w1 ⟨a1,a2,a3,i,hi,h1,h2⟩=>?_
 refine (sp_mint (w:=w1) (n:=n) (by unfold Bd;rw [a1];exact h) hn _ _).bind fun w2 ⟨x,u,e,_⟩=>Sp.ret ?_
 subst e
 refine ⟨by show w1.1.2.2.2.2.2.2.2.2.2.2.2.2.2.2.2=_;rw [a1],by show w1.2.2.2.1=_;rw [a3],i,hi,h1,h2⟩
theorem sp_revoke {w:WkT} {n:Nat} (h:Bd n w) (hn:n≤3000000):Sp (F_lane_work_revoke w) (For w):=by
 unfold F_lane_work_revoke
 refine (sp_may h hn 1).bind fun w1 ⟨a1,a2,a3,i,hi,h1,h2⟩=>?_
 have hb:Bd n w1:=by unfold Bd;rw [a1];exact h
 have fin:Sp ((F_right_Revoke w1.1.2.2.2.2.2.1 w1.2.1.2.2.1).bind fun t3=>((F_lane_need t3.2).bind (Sum.elim (fun e94=>some (Sum.inl e94)) (fun t4=>some (Sum.inr ((w1.1.1,w1.1.2.1,w1.1.2.2.1,w1.1.2.2.2.1,w1.1.2.2.2.2.1,t3.1,w1.1.2.2.2.2.2.2),w1.2)))))) (For w):=by
  obtain ⟨t,c,e,hc⟩:=f_Revoke (l:=w1.1.2.2.2.2.2.1) (by have:=hb.2.1;omega) w1.2.1.2.2.1
  rw [e,Option.bind_some]
  exact (sp_need (e:=c) (by omega) (by omega)).bind fun y hy=>Sp.ret ⟨by show w1.1.2.2.2.2.2.2.2.2.2.2.2.2.2.2.2=_;rw [a1],by show w1.2.2.2.1=_;rw [a3],i,hi,h1,h2⟩
 have e:(fun x=>F_lane_work_revoke_1 x w1)=fun (x:TRight)=>some (x.1==w1.2.1.2.2.1):=rfl
 rw [e]
 rcases ix_Right (l:=w1.1.2.2.2.2.2.1) (p:=fun (x:TRight)=>x.1==w1.2.1.2.2.1) (by have:=hb.2.1;omega) with ⟨e,_⟩|⟨j,e,hj,_⟩
 ·rw [e,Option.bind_some,if_pos (by decide)]
  exact .inl ⟨160,by decide,by decide,rfl⟩
 ·have hm:mx (j:Int) 0=(j:Int):=by unfold mx;split<;>omega
  rw [e,Option.bind_some,if_neg (by simp),hm,if_pos (by omega)]
  rcases sp_refuse (b:=((getD w1.1.2.2.2.2.2.1 (toNat (j:Int)) zRight).2.1 != w1.2.2.1)) (e:=160) (by decide) (by decide) with ⟨m,m1,m2,m3⟩|⟨y,m1,_⟩
  ·rw [m3]
   exact .inl ⟨m,m1,m2,rfl⟩
  ·rw [m1]
   exact fin
theorem sp_leave {w:WkT} {n:Nat} (h:Bd n w) (hn:n≤3000000):Sp (F_lane_work_leave w) (For w):=by
 unfold F_lane_work_leave
 refine (sp_may h hn 2).bind fun w1 ⟨a1,a2,a3,i,hi,h1,h2⟩=>?_
 have hb:Bd n w1:=by unfold Bd;rw [a1];exact h
 obtain ⟨b,e⟩:=f_wants hb hn
 rw [e,Option.bind_some]
 refine (sp_refuse (by decide) (by decide)).bind fun y _=>?_
 obtain ⟨t,c,e2,_⟩:=f_depart hb hn w1.2.1.2.2.2.2.1
 rw [e2,Option.bind_some]
 exact Sp.ret ⟨by show w1.1.2.2.2.2.2.2.2.2.2.2.2.2.2.2.2=_;rw [a1],by show w1.2.2.2.1=_;rw [a3],i,hi,h1,h2⟩
theorem sp_join {w:WkT} {n:Nat} (h:Bd n w) (hn:n+1≤3000000):Sp (F_lane_work_join w) (For w):=by
 unfold F_lane_work_join
 refine (sp_may h (by omega) 2).bind fun w1 ⟨a1,a2,a3,i,hi,h1,h2⟩=>?_
 have hb:Bd n w1:=by unfold Bd;rw [a1];exact h
 obtain ⟨b,e⟩:=f_wants hb (by omega)
 rw [e,Option.bind_some]
 refine (sp_refuse (by decide) (by decide)).bind fun y _=>?_
 unfold F_lane_work_member
 rw [Option.bind_some]
 obtain ⟨p,hp⟩:=toP (f:=fun x=>F_lane_work_join_1 x (w1.2.1.2.2.2.2.1,w1.1.2.1,w1.2.2.1)) (fun x=>by
  unfold F_lane_work_join_1
  obtain ⟨c,e⟩:=f_Less (w1.2.1.2.2.2.2.1,w1.1.2.1,w1.2.2.1) x
  rw [e]
  exact ⟨_,rfl⟩)
 rw [hp]
 have hl:=hb.2.2.1
 have ins:∀j:Nat,j≤w1.1.2.2.2.2.2.2.1.length→Sp ((F_slices_Insert_api_Member_api_Member w1.1.2.2.2.2.2.2.1 (j:Int) [(w1.2.1.2.2.2.2.1,w1.1.2.1,w1.2.2.1)]).bind fun t6=>((F_lane_work_control ((w1.1.1,w1.1.2.1,w1.1.2.2.1,w1.1.2.2.2.1,w1.1.2.2.2.2.1,w1.1.2.2.2.2.2.1,t6,w1.1.2.2.2.2.2.2.2),w1.2) 2 3 w1.2.1.2.2.2.2.1).bind fun t7=>(some (Sum.inr (t7.1,t7.2.1,t7.2.2.1,t7.2.2.2.1,t7.2.2.2.2.1,t7.2.2.2.2.2.1,t7.2.2.2.2.2.2.1,t7.2.1.2.2.2.2.1,t7.2.2.2.2.2.2.2.2))))) (For w):=by
  intro j hj
  unfold F_slices_Insert_api_Member_api_Member
  rw [if_pos ⟨by omega,by omega,rfl,by omega⟩,Option.bind_some]
  obtain ⟨c,e2,_⟩:=f_control (w:=((w1.1.1,w1.1.2.1,w1.1.2.2.1,w1.1.2.2.2.1,w1.1.2.2.2.2.1,w1.1.2.2.2.2.2.1,take (toNat (j:Int)) w1.1.2.2.2.2.2.2.1++[(w1.2.1.2.2.2.2.1,w1.1.2.1,w1.2.2.1)]++drop (toNat (j:Int)) w1.1.2.2.2.2.2.2.1,w1.1.2.2.2.2.2.2.2),w1.2)) (n:=n+1) ⟨Nat.le_succ_of_le hb.1,Nat.le_succ_of_le hb.2.1,by show length (_++_++_)≤n+1;simp;omega,Nat.le_succ_of_le hb.2.2.2.1,Nat.le_succ_of_le hb.2.2.2.2⟩ hn 2 3 w1.2.1.2.2.2.2.1
  rw [e2,Option.bind_some]
  exact Sp.ret ⟨by show w1.1.2.2.2.2.2.2.2.2.2.2.2.2.2.2.2=_;rw [a1],by show w1.2.2.2.1=_;rw [a3],i,hi,h1,h2⟩
 rcases ix_Member (l:=w1.1.2.2.2.2.2.2.1) (p:=p) (by omega) with ⟨e,_⟩|⟨j,e,hj,_⟩
 ·rw [e,Option.bind_some,if_pos (by decide),Option.bind_some]
  exact ins _ (Nat.le_refl _)
 ·rw [e,Option.bind_some,if_neg (by simp),Option.bind_some]
  exact ins j (by omega)
theorem sp_send {w:WkT} {n:Nat} (h:Bd n w) (hn:n+1≤3000000):Sp (F_lane_work_send w) (For w):=by
 unfold F_lane_work_send
 refine (sp_may h (by omega) 4).bind fun w1 ⟨a1,a2,a3,i,hi,h1,h2⟩=>?_
 have hb:Bd n w1:=by unfold Bd;rw [a1];exact h
 obtain ⟨b,e⟩:=f_wants hb (by omega)
 rw [e,Option.bind_some]
 refine (sp_refuse (by decide) (by decide)).bind fun y _=>(sp_refuse (by decide) (by decide)).bind fun y _=>?_
 have hl:=hb.2.2.2.2
 rcases f_Next (r:=w1.1.2.2.2.2.1) (by have:=hb.1;omega) w1.2.2.1 with e|⟨r',m,e,_⟩
 ·rw [e,Option.bind_some]
  refine Sp.bind (sp_need (e:=162) (by decide) (by decide)) fun y hy=>?_
  cases hy
 ·rw [e,Option.bind_some]
  refine (sp_need (e:=0) (by decide) (by decide)).bind fun y hy=>?_
  rw [if_pos ⟨by omega,by simp [maxLen];omega⟩]
  exact Sp.ret ⟨by show w1.1.2.2.2.2.2.2.2.2.2.2.2.2.2.2.2=_;rw [a1],by show w1.2.2.2.1=_;rw [a3],i,hi,h1,h2⟩
theorem sp_close {w:WkT} {n:Nat} (h:Bd n w) (hn:2*n≤3000000):Sp (F_lane_work_close w) (For w):=by
 unfold F_lane_work_close
 refine (sp_may h (by omega) 1).bind fun w1 ⟨a1,a2,a3,i,hi,h1,h2⟩=>?_
 have hb:Bd n w1:=by unfold Bd;rw [a1];exact h
 rcases f_Close (r:=w1.1.2.2.2.2.1) (by have:=hb.1;omega) w1.2.2.1 with e|⟨r',e,hr⟩
 ·rw [e,Option.bind_some]
  refine Sp.bind (sp_need (e:=162) (by decide) (by decide)) fun y hy=>?_
  cases hy
 ·rw [e,Option.bind_some]
  refine (sp_need (e:=0) (by decide) (by decide)).bind fun y hy=>?_
  have hl:=hb.2.2.1
  rw [clone_Member (by omega),Option.bind_some]
  have key:=loop_inv (N:=w1.1.2.2.2.2.2.2.1.length) (body:=F_lane_work_close_b1 w1.1.2.2.2.2.2.2.1) (s:=(0,((w1.1.1,w1.1.2.1,w1.1.2.2.1,w1.1.2.2.2.1,w1.1.2.2.2.2.1,w1.1.2.2.2.2.2.1,(),(),(),w1.1.2.2.2.2.2.2.2.2.2),w1.2),w1.1.2.2.2.2.2.2.1,w1.1.2.2.2.2.2.2.2.1,w1.1.2.2.2.2.2.2.2.2.1))
   (fun k s=>s.1=(k:Int)∧Bd (n+k) ((s.2.1.1.1,s.2.1.1.2.1,s.2.1.1.2.2.1,s.2.1.1.2.2.2.1,s.2.1.1.2.2.2.2.1,s.2.1.1.2.2.2.2.2.1,s.2.2.1,s.2.2.2.1,s.2.2.2.2,s.2.1.1.2.2.2.2.2.2.2.2.2),s.2.1.2)∧s.2.1.1.2.2.2.2.2.2.2.2.2=w1.1.2.2.2.2.2.2.2.2.2∧s.2.1.2=w1.2)
   (fun r=>r.1.1.2.2.2.2.2.2.2.2.2=w1.1.2.2.2.2.2.2.2.2.2∧r.1.2=w1.2∧r.1.1.2.2.2.2.2.1.length≤3000000∧r.2.2.2.length≤3000000) (fun k s hk hs=>?_) (fun s hs=>?_) ⟨rfl,hb,rfl,rfl⟩
  ·obtain ⟨r,e2,q1,q2,q3,q4⟩:=key
   rw [e2,Option.bind_some,f_Drop q3,Option.bind_some]
   have e3:∀z,(fun x=>F_lane_work_close_1 x z)=fun (x:TEntry)=>some (x.2.2.2.1==z.2.2.1):=fun z=>rfl
   rw [e3,del_Entry (by omega),Option.bind_some]
   exact Sp.ret ⟨by show r.1.1.2.2.2.2.2.2.2.2.2.2.2.2.2.2.2=_;rw [q1,a1],by show r.1.2.2.2.1=_;rw [q2,a3],i,hi,by show _=r.1.2.2.1;rw [q2];exact h1,h2⟩
  ·obtain ⟨s1,s2,s3,s4⟩:=hs
   simp only [F_lane_work_close_b1]
   rw [if_pos (by rw [s1];simp;omega),if_pos (by rw [s1];omega)]
   unfold F_lane_work_member
   rw [Option.bind_some]
   by_cases hq:Sh.eqb S43 (getD w1.1.2.2.2.2.2.2.1 (toNat s.1) zMember) ((getD w1.1.2.2.2.2.2.2.1 (toNat s.1) zMember).1,s.2.1.1.2.1,s.2.1.2.2.1)=true
   ·rw [if_pos hq]
    obtain ⟨t,c,e4,c1,c2⟩:=f_depart s2 (by omega) (getD w1.1.2.2.2.2.2.2.1 (toNat s.1) zMember).1
    rw [e4,Option.bind_some]
    refine ⟨_,rfl,by show wrap .i64 (s.1+1)=_;rw [s1];exact wi (by omega),⟨?_,?_,?_,?_,?_⟩,s3,s4⟩
    ·have:=s2.1;show _≤n+(k+1);exact Nat.le_trans this (by omega)
    ·have:=s2.2.1;show _≤n+(k+1);exact Nat.le_trans this (by omega)
    ·show t.length≤n+(k+1);omega
    ·show c.length≤n+(k+1);omega
    ·have:=s2.2.2.2.2;show _≤n+(k+1);exact Nat.le_trans this (by omega)
   ·rw [if_neg hq]
    exact ⟨_,rfl,by show wrap .i64 (s.1+1)=_;rw [s1];exact wi (by omega),s2.up (by omega),s3,s4⟩
  ·obtain ⟨s1,s2,s3,s4⟩:=hs
   simp only [F_lane_work_close_b1]
   rw [if_neg (by rw [s1];simp)]
   exact ⟨_,rfl,s3,s4,Nat.le_trans s2.2.1 (by omega),Nat.le_trans s2.2.2.2.2 (by omega)⟩
abbrev trV:Value:=.iface 167 (.agg #[])
def Sq {α:Type} (o:Option (Value⊕α)) (Q:α→Prop):Prop:=o=some (.inl trV)∨∃y,o=some (.inr y)∧Q y
theorem Sq.bind {α β:Type} {o:Option (Value⊕α)} {Q:α→Prop} {R:β→Prop} {f:α→Option (Value⊕β)} (h:Sq o Q) (k:∀y,Q y→Sq (f y) R):Sq (o.bind (Sum.elim (fun e=>some (Sum.inl e)) f)) R:=by
 rcases h with rfl|⟨y,rfl,q⟩
 ·exact .inl rfl
 ·exact k y q
theorem Sq.part {α β:Type} {o:Option ((Value⊕β)⊕Unit)} {f:Unit→Option (Value⊕β)} {R:β→Prop} (h:o=some (.inl (.inl trV))∨o=some (.inr ())∧Sq (f ()) R):Sq (o.bind (Sum.elim some f)) R:=by
 rcases h with rfl|⟨rfl,q⟩
 ·exact .inl rfl
 ·exact q
theorem Sq.ret {α:Type} {y:α} {Q:α→Prop} (h:Q y):Sq (some (Sum.inr y)) Q:=.inr ⟨y,rfl,h⟩
theorem sq_need (b:Bool):Sq (F_parse_need b) fun _=>b=true:=by
 unfold F_parse_need
 cases b with
 | false=>exact .inl rfl
 | true=>exact .inr ⟨(),rfl,rfl⟩
abbrev PaT:=S171.ty
theorem ib_le (x:Str) (c:UInt8):Lib.indexByte x c=-1∨∃i:Nat,Lib.indexByte x c=(i:Int)∧i<x.length:=by
 induction x with
 | nil=>exact .inl rfl
 | cons a x ih =>
  simp only [Lib.indexByte]
  split
  ·exact .inr ⟨0,rfl,by simp⟩
  ·rcases ih with e|⟨i,e,hi⟩
   ·rw [e];exact .inl rfl
   ·rw [e,if_neg (by rw [beq_iff_eq];omega)];exact .inr ⟨i+1,by omega,by simpa using hi⟩
theorem f_cut {x:Str} (h:x.length≤1000000000000):∃a b c,F_strings_Cut x [32]=some (a,b,c)∧a.length≤x.length∧b.length≤x.length∧(c=false→a=x):=by
 unfold F_strings_Cut F_internal_stringslite_Cut F_internal_stringslite_Index
 simp only
 rw [if_pos (by omega),Option.bind_some]
 rcases ib_le x 32 with e|⟨i,e,hi⟩
 ·rw [e,if_neg (by decide)]
  exact ⟨x,[],false,rfl,Nat.le_refl _,Nat.zero_le _,fun _=>rfl⟩
 ·have hw:wrap .i64 ((i:Int)+((length ([32]:Str):Nat):Int))=((i+1:Nat):Int):=wi (by omega)
  rw [e,if_pos (by simp),if_pos ⟨by omega,by omega,by omega⟩,hw,if_pos ⟨by omega,by omega,by omega⟩]
  exact ⟨_,_,true,rfl,by simp;omega,by simp,by simp⟩
theorem sq_word {p:PaT} (h:p.1.length≤1000000000000):Sq (F_parse_parser_word p) fun y=>y.1.length≤p.1.length∧y.2.1.length≤p.1.length∧(y.2.2=true→y.1=p.1):=by
 unfold F_parse_parser_word
 refine (sq_need _).bind fun y _=>?_
 obtain ⟨a,b,c,e,h1,h2,h3⟩:=f_cut h
 rw [e,Option.bind_some]
 exact Sq.ret ⟨h1,h2,fun hc=>h3 (by simpa using hc)⟩
theorem f_pu {x:Str} (h:x.length≤1000000000000):F_strconv_ParseUint x 10 64=some (puV x):=by
 unfold F_strconv_ParseUint
 rw [if_pos ⟨rfl,rfl,by omega⟩]
theorem f_fu (x:Int):F_strconv_FormatUint x 10=some (Lib.decDigits x.toNat):=rfl
theorem sq_number {p:PaT} (h:p.1.length≤1000000000000) (a b:Int):Sq (F_parse_parser_number p a b) fun y=>y.2.1.length≤p.1.length:=by
 unfold F_parse_parser_number
 refine (sq_word h).bind fun y ⟨h1,h2,_⟩=>?_
 rw [f_pu (Nat.le_trans h1 h),Option.bind_some]
 refine Sq.part (α:=Unit) ?_
 have no:∀(z:Int×PaT),(F_parse_need false).bind (Sum.elim (fun e=>some (Sum.inl (Sum.inl e))) (fun t=>some (Sum.inr ())))=(some (.inl (.inl trV)):Option ((Value⊕(Int×PaT))⊕Unit)):=fun _=>rfl
 split
 ·rw [f_fu,Option.bind_some]
  split
  ·split
   ·rcases sq_need (decide ((puV y.1).1≤b)) with e|⟨u,e,_⟩
    ·rw [e];exact .inl rfl
    ·rw [e];exact .inr ⟨rfl,Sq.ret h2⟩
   ·exact .inl (no (0,p))
  ·exact .inl (no (0,p))
 ·exact .inl (no (0,p))
theorem sq_small {p:PaT} (h:p.1.length≤1000000000000) (a b:Int):Sq (F_parse_parser_small p a b) fun y=>y.2.1.length≤p.1.length:=by
 unfold F_parse_parser_small
 exact (sq_number h _ _).bind fun y hy=>Sq.ret hy
theorem sq_handle {p:PaT} (h:p.1.length≤1000000000000):Sq (F_parse_parser_handle p) fun y=>y.2.1.length≤p.1.length:=by
 unfold F_parse_parser_handle
 exact (sq_number h _ _).bind fun y hy=>Sq.ret hy
theorem f_ixs {l:List Str} (h:l.length≤9000000) (x:Str):∃b,F_slices_Index_string_string l x=some b:=by
 unfold F_slices_Index_string_string
 obtain ⟨r,e,_⟩:=loop_any_ex (N:=l.length) (body:=F_slices_Index_string_string_b1 l x) (mk:=fun (k:Nat)=>(k:Int)) (fun i hi=>by
  simp only [F_slices_Index_string_string_b1]
  rw [if_pos (by simp;omega),if_pos (by omega)]
  split
  ·exact .inl ⟨_,rfl⟩
  ·exact .inr (by rw [wi (by omega)])) ⟨_,by simp only [F_slices_Index_string_string_b1];rw [if_neg (by simp)]⟩
 have e:loopO (F_slices_Index_string_string_b1 l x) 0=some r:=e
 rw [e]
 cases r<;>exact ⟨_,rfl⟩
theorem sq_service {p:PaT} (h:p.1.length≤1000000000000):Sq (F_parse_parser_service p) fun y=>y.2.1.length≤p.1.length:=by
 unfold F_parse_parser_service F_parse_services
 rw [Option.bind_some]
 refine (sq_word h).bind fun y ⟨h1,h2,_⟩=>?_
 obtain ⟨b,e⟩:=f_ixs (l:=List.set (List.set (List.set (List.set (replicate 4 []) 0 ([102,105,102,111]:Str)) 1 ([99,97,117,115,97,108]:Str)) 2 ([97,103,114,101,101,100]:Str)) 3 ([115,97,102,101]:Str)) (by simp) y.1
 rw [e,Option.bind_some]
 exact (sq_need _).bind fun z _=>Sq.ret h2
theorem f_cutp (x:Str):∃a b,F_strings_CutPrefix x [61]=some (a,b):=by
 unfold F_strings_CutPrefix F_internal_stringslite_CutPrefix F_internal_stringslite_HasPrefix
 by_cases h:1≤x.length
 ·rw [if_pos (by simp;omega),if_pos ⟨by simp,by simp,by simpa using h⟩,Option.bind_some,Option.bind_some]
  split
  ·exact ⟨_,_,rfl⟩
  ·rw [if_pos ⟨by simp,by simpa using h,Nat.le_refl _⟩]
   exact ⟨_,_,rfl⟩
 ·rw [if_neg (by simp;omega)]
  exact ⟨_,_,rfl⟩
theorem sq_text {p:PaT}:Sq (F_parse_parser_text p) fun y=>True:=by
 unfold F_parse_parser_text
 refine (sq_need _).bind fun y _=>?_
 obtain ⟨a,b,e⟩:=f_cutp p.1
 rw [e,Option.bind_some]
 refine Sq.part (α:=Unit) ?_
 split
 ·rcases sq_need (decide (((length a:Nat):Int)≤16)) with e|⟨u,e,_⟩
  ·rw [e];exact .inl rfl
  ·rw [e];exact .inr ⟨rfl,Sq.ret trivial⟩
 ·exact .inl rfl
abbrev opS:Str:=[111,112,101,110]
theorem sq_call {p:PaT} (h:p.1.length≤1000000000000):Sq (F_parse_parser_call p) fun y=>0≤y.1.1∧y.1.1≤6∧(y.1.1=0→p.1=opS):=by
 unfold F_parse_parser_call
 refine (sq_word h).bind fun y ⟨h1,h2,h3⟩=>?_
 have hh:=Nat.le_trans h2 h
 by_cases c0:(y.1==opS)=true
 ·rw [if_pos c0]
  refine (sq_need _).bind fun z hz=>Sq.ret ⟨by simp,by simp,fun _=>?_⟩
  rw [← h3 hz]
  simpa using c0
 rw [if_neg c0]
 split
 ·refine (sq_handle hh).bind fun a ha=>(sq_need _).bind fun z _=>Sq.ret ⟨by simp,by simp,fun h=>(by simp at h)⟩
 split
 ·refine (sq_handle hh).bind fun a ha=>(sq_small (Nat.le_trans ha hh) _ _).bind fun b hb=>(sq_need _).bind fun z _=>Sq.ret ⟨by simp,by simp,fun h=>(by simp at h)⟩
 split
 ·refine (sq_handle hh).bind fun a ha=>(sq_handle (Nat.le_trans ha hh)).bind fun b hb=>(sq_need _).bind fun z _=>Sq.ret ⟨by simp,by simp,fun h=>(by simp at h)⟩
 split
 ·refine (sq_handle hh).bind fun a ha=>(sq_small (Nat.le_trans ha hh) _ _).bind fun b hb=>(sq_need _).bind fun z _=>Sq.ret ⟨by simp,by simp,fun h=>(by simp at h)⟩
 split
 ·refine (sq_handle hh).bind fun a ha=>(sq_small (Nat.le_trans ha hh) _ _).bind fun b hb=>(sq_need _).bind fun z _=>Sq.ret ⟨by simp,by simp,fun h=>(by simp at h)⟩
 split
 ·refine (sq_handle hh).bind fun a ha=>(sq_small (Nat.le_trans ha hh) _ _).bind fun b hb=>(sq_service (Nat.le_trans hb (Nat.le_trans ha hh))).bind fun d hd=>sq_text.bind fun e _=>(sq_need _).bind fun z _=>Sq.ret ⟨by simp,by simp,fun h=>(by simp at h)⟩
 ·exact .inl rfl
theorem f_Parse {s:Str} (h:s.length≤1000000000000):∃c:S86.ty,∃e k:Int,F_parse_Parse s=some (c,e)∧(e=210∨e=0∧c.1=k∧0≤k∧k≤6∧(k=0→s=opS)):=by
 unfold F_parse_Parse
 rcases sq_call (p:=(s,false)) h with e|⟨y,e,q1,q2,q3⟩
 ·rw [e]
  exact ⟨_,210,0,rfl,.inl rfl⟩
 ·rw [e]
  exact ⟨y.1,0,y.1.1,rfl,.inr ⟨rfl,rfl,q1,q2,q3⟩⟩
theorem f_open:F_parse_Parse opS=some ((0,0,0,0,0,0,[]),0):=by
 rfl
structure Fit (l:LnT):Prop where
 d:l.2.2.1.length≤2000000
 r:l.2.2.2.2.1.2.length≤1100000
 t:l.2.2.2.2.2.1.length≤1100000
 w:l.2.2.2.2.2.2.1.length≤1100000
 c:l.2.2.2.2.2.2.2.1.length≤1100000
 q:l.2.2.2.2.2.2.2.2.1.length≤1100000
 b:l.2.2.2.2.2.2.2.2.2.2.1.length≤2000000
 u:l.2.2.2.2.2.2.2.2.2.2.2.1.length≤2000000
 a:l.2.2.2.2.2.2.2.2.2.2.2.2.2.2.2.length≤2000000
theorem f_Copy {l:LnT} (h:Fit l):F_lane_Copy l=some l:=by
 unfold F_lane_Copy
 rw [clone_u (by have:=h.d;omega),Option.bind_some,clone_Session (by have:=h.r;omega),Option.bind_some,clone_Right (by have:=h.t;omega),Option.bind_some,clone_Member (by have:=h.w;omega),Option.bind_some,clone_Entry (by have:=h.c;omega),Option.bind_some,clone_Entry (by have:=h.q;omega),Option.bind_some,clone_Member (by have:=h.b;omega),Option.bind_some,clone_Wait (by have:=h.u;omega),Option.bind_some,clone_Record (by have:=h.a;omega),Option.bind_some]
theorem f_Add {l:List TRecord} (h:l.length≤2000000) (k:Int) (s:Str) (e:Int):∃n m,F_audit_Add l k s e=some (l++[(n,m,s,e)]):=by
 unfold F_audit_Add
 have fin:∀m:Int,∃n,((F_slices_Clone_api_Record_api_Record l).bind fun t1=>(if apOk (length t1+1) 40 then (some (t1++[(wrap .u64 ((wrap .u64 ((length l:Nat):Int))+1),m,s,e)])) else none))=some (l++[(n,m,s,e)]):=by
  intro m
  rw [clone_Record (by omega),Option.bind_some,if_pos ⟨by omega,by simp [maxLen];omega⟩]
  exact ⟨_,rfl⟩
 by_cases h0:0<l.length
 ·have hw:wrap .i64 (((length l:Nat):Int)-1)=((l.length-1:Nat):Int):=by rw [wr (by omega)];omega
  rw [if_pos (by rw [decide_eq_true_eq];omega),hw,if_pos (show (0:Int)≤((l.length-1:Nat):Int)∧((l.length-1:Nat):Int)<((length l:Nat):Int) from ⟨by omega,by omega⟩),Option.bind_some]
  obtain ⟨n,e⟩:=fin _
  exact ⟨n,_,e⟩
 ·rw [if_neg (by rw [decide_eq_true_eq];omega),Option.bind_some]
  obtain ⟨n,e⟩:=fin k
  exact ⟨n,k,e⟩
theorem recI_err {n:Int} (h1:1≤n) (h2:n≤100000):recI 131 (errV n)=some n:=by
 unfold recI
 simp only
 rw [if_pos ⟨rfl,by simp [IntKind.min,IntKind.signed,IntKind.bits];omega,by simp [IntKind.max,IntKind.signed,IntKind.bits];omega⟩]
def Did (s:Str) (w w':WkT):Prop:=aud w'=aud w∧w'.2.2.2.1=w.2.2.2.1 ∧
 (s=opS→∃x u g,rig w'=rig w++[(x,u,g,false)]∧w'.2.2.2.2.2.1=x∧(∀i,i<(rig w).length→((rig w).getD i zRight).1≠x)∧w'.1.2.2.2.2.1.2.length=w.1.2.2.2.2.1.2.length+1) ∧
 (s≠opS→∃i,i<(rig w).length∧((rig w).getD i zRight).2.1=ses w'∧((rig w).getD i zRight).2.2.2=false)
theorem f_try {w:WkT} (h:Bd 1100000 w) {s:Str} (hs:s.length≤1000000000000):(∃e:Int,1≤e∧e≤100000∧F_lane_work_try w s=some (.inl e))∨∃w',F_lane_work_try w s=some (.inr (0,w'))∧Did s w w':=by
 unfold F_lane_work_try
 obtain ⟨c,e,kk,e1,hc⟩:=f_Parse hs
 rw [e1,Option.bind_some]
 rcases hc with rfl|⟨rfl,hk,c0,c6,co⟩
 ·left
  refine ⟨210,by decide,by decide,?_⟩
  have:F_lane_need 210=some (.inl (errV 210)):=rfl
  simp only [this,Option.bind_some,Sum.elim_inl,recI_err (n:=210) (by decide) (by decide)]
 ·have h0:F_lane_need 0=some (.inr ()):=rfl
  simp only [h0,Option.bind_some,Sum.elim_inr]
  rw [hk,if_pos (show (0:Int)≤kk∧kk<((7:Nat):Int) from ⟨c0,by omega⟩)]
  have hb:Bd 1100000 ((w.1,c,w.2.2):WkT):=h
  have key:Sp (F_ways kk (w.1,c,w.2.2)) (Did s w):=by
   have lift:∀{o:Option (Value⊕WkT)},s≠opS→Sp o (For (w.1,c,w.2.2))→Sp o (Did s w):=fun hne ho=>ho.mono fun y ⟨q1,q2,q3⟩=>⟨q1,q2,fun e=>absurd e hne,fun _=>q3⟩
   unfold F_ways
   by_cases k0:kk=0
   ·rw [if_pos k0]
    exact (sp_open hb (by omega)).mono fun y ⟨q1,q2,q3⟩=>⟨q1,q2,fun _=>q3,fun e=>absurd (co k0) e⟩
   have hne:s≠opS:=by
    intro e
    subst e
    rw [f_open] at e1
    simp only [injEq,Prod.mk.injEq] at e1
    exact k0 (by rw [← hk,← e1.1])
   rw [if_neg k0]
   by_cases k1:kk=1
   ·rw [if_pos k1];exact lift hne (sp_close hb (by omega))
   rw [if_neg k1]
   by_cases k2:kk=2
   ·rw [if_pos k2];exact lift hne (sp_grant hb (by omega))
   rw [if_neg k2]
   by_cases k3:kk=3
   ·rw [if_pos k3];exact lift hne (sp_revoke hb (by omega))
   rw [if_neg k3]
   by_cases k4:kk=4
   ·rw [if_pos k4];exact lift hne (sp_join hb (by omega))
   rw [if_neg k4]
   by_cases k5:kk=5
   ·rw [if_pos k5];exact lift hne (sp_leave hb (by omega))
   rw [if_neg k5,if_pos (show kk=6 by omega)]
   exact lift hne (sp_send hb (by omega))
  rcases key with ⟨n,n1,n2,e2⟩|⟨w',e2,q⟩
  ·left
   refine ⟨n,n1,n2,?_⟩
   rw [e2]
   simp only [Option.bind_some,Sum.elim_inl,recI_err n1 n2]
  ·right
   refine ⟨w',?_,q⟩
   rw [e2]
   rfl
abbrev setA (l:LnT) (a:List TRecord):LnT:=(l.1,l.2.1,l.2.2.1,l.2.2.2.1,l.2.2.2.2.1,l.2.2.2.2.2.1,l.2.2.2.2.2.2.1,l.2.2.2.2.2.2.2.1,l.2.2.2.2.2.2.2.2.1,l.2.2.2.2.2.2.2.2.2.1,l.2.2.2.2.2.2.2.2.2.2.1,l.2.2.2.2.2.2.2.2.2.2.2.1,l.2.2.2.2.2.2.2.2.2.2.2.2.1,l.2.2.2.2.2.2.2.2.2.2.2.2.2.1,l.2.2.2.2.2.2.2.2.2.2.2.2.2.2.1,a)
abbrev sn0 (e:Int):S45.ty:=(0,0,e,0,0,0,(0,0,0),(0,0,0),(0,0,0),[],[])
abbrev wk0 (l:LnT):WkT:=(l,(0,0,0,0,0,0,[]),sn0 0)
theorem f_Call {l:LnT} (h:Fit l) (k:Int) {s:Str} (hs:s.length≤1000000000000):∃n m,(∃e:Int,1≤e∧e≤100000∧F_lane_Call l k s=some (setA l (l.2.2.2.2.2.2.2.2.2.2.2.2.2.2.2++[(n,m,s,e)]),sn0 e))∨∃w',F_lane_Call l k s=some (setA w'.1 (l.2.2.2.2.2.2.2.2.2.2.2.2.2.2.2++[(n,m,s,0)]),w'.2.2.1,w'.2.2.2.1,0,w'.2.2.2.2.2)∧Did s (wk0 l) w':=by
 unfold F_lane_Call
 rw [f_Copy h,Option.bind_some]
 rcases f_try (w:=wk0 l) ⟨h.r,h.t,h.w,h.c,h.q⟩ hs with ⟨e,e1,e2,q⟩|⟨w',q,d⟩
 ·obtain ⟨n,m,ea⟩:=f_Add (l:=l.2.2.2.2.2.2.2.2.2.2.2.2.2.2.2) h.a k s e
  refine ⟨n,m,.inl ⟨e,e1,e2,?_⟩⟩
  rw [q,Option.bind_some,Sum.elim_inl,if_pos (by simp;omega),Option.bind_some,ea]
  rfl
 ·obtain ⟨n,m,ea⟩:=f_Add (l:=l.2.2.2.2.2.2.2.2.2.2.2.2.2.2.2) h.a k s 0
  refine ⟨n,m,.inr ⟨w',?_,d⟩⟩
  have d1:w'.1.2.2.2.2.2.2.2.2.2.2.2.2.2.2.2=l.2.2.2.2.2.2.2.2.2.2.2.2.2.2.2:=d.1
  rw [q,Option.bind_some,Sum.elim_inr,if_neg (by simp)]
  simp only [d1,ea,Option.bind_some]
end Go.Proofs.YtglfdihomfhmmaaGreatDoor.La
namespace Go.Proofs.YtglfdihomfhmmaaGreatDoor.La
open Go.RowKit
set_option maxRecDepth 1000000 in
theorem f_fixed:F_congresslaw23_fixed=some true:=M_congresslaw23_fixed _ (by kernel_rfl)
end Go.Proofs.YtglfdihomfhmmaaGreatDoor.La
namespace Go.Proofs.YtglfdihomfhmmaaGreatDoor.La
open Go.RowKit Go.IntWalk
theorem loop_two {S τ:Type} {N:Nat} {mk:Nat→S} {body:S→Option (S⊕τ)} {r0 r1:τ} (h1:∀i,i<N→body (mk i)=some (.inr r0)∨body (mk i)=some (.inl (mk (i+1)))) (h2:body (mk N)=some (.inr r1)):loopO body (mk 0)=some r0∨loopO body (mk 0)=some r1:=by
 have key:∀j k,k+j=N→loopO body (mk k)=some r0∨loopO body (mk k)=some r1:=by
  intro j
  induction j with
  | zero =>
   intro k hk
   obtain rfl:k=N:=by omega
   exact .inr (loopO_end h2)
  | succ j ih =>
   intro k hk
   rcases h1 k (by omega) with e|e
   ·exact .inl (loopO_end e)
   ·rw [loopO_go e]
    exact ih (k+1) (by omega)
 exact key N 0 (by omega)
theorem f_Find {l:List TRight} (h:l.length≤9000000) (x:Int):(F_congressref16_Find l x=some (-1)∧∀i,i<l.length→(l.getD i zRight).1≠x)∨∃i,F_congressref16_Find l x=some ((i:Nat):Int)∧i<l.length∧(l.getD i zRight).1=x:=by
 unfold F_congressref16_Find
 have e:=loop_first (N:=l.length) (mk:=fun (k:Nat)=>(k:Int)) (body:=F_congressref16_Find_b1 l x) (fun k=>(l.getD k zRight).1==x) (fun k=>Sum.inl (k:Int)) (Sum.inr ()) (fun i hi=>by
  simp only [F_congressref16_Find_b1]
  rw [if_pos (by simp;omega),if_pos (by omega),Int.toNat_natCast,wi (by omega)]
  split<;>simp_all) (by simp only [F_congressref16_Find_b1];rw [if_neg (by simp)])
 have e:loopO (F_congressref16_Find_b1 l x) 0=_:=e
 rw [e]
 rcases find_cases (n:=l.length) (p:=fun k=>(l.getD k zRight).1==x) rfl with ⟨e2,q⟩|⟨i,e2,q1,q2⟩
 ·rw [e2]
  exact .inl ⟨rfl,fun i hi=>by have:=q i hi;simpa using this⟩
 ·rw [e2]
  exact .inr ⟨i,rfl,q1,by simpa using q2⟩
theorem f_held {l:LnT} (h:l.2.2.2.2.2.1.length≤9000000) (x:Int):(F_congresslaw23_held l x=some false∧∀i,i<l.2.2.2.2.2.1.length→(l.2.2.2.2.2.1.getD i zRight).1≠x)∨(F_congresslaw23_held l x=some true∧∃i,i<l.2.2.2.2.2.1.length∧(l.2.2.2.2.2.1.getD i zRight).1=x):=by
 unfold F_congresslaw23_held
 rcases f_Find h x with ⟨e,q⟩|⟨i,e,hi,q⟩
 ·rw [e];exact .inl ⟨rfl,q⟩
 ·rw [e]
  refine .inr ⟨?_,i,hi,q⟩
  rw [Option.bind_some,decide_eq_true (by omega)]
theorem f_May16 {l:List TRight} (h:l.length≤9000000):∃b,F_congressref16_May l=some b∧(b=true→l.length≤16):=by
 unfold F_congressref16_May
 have e:=loop_two (N:=l.length) (mk:=fun (k:Nat)=>(k:Int)) (body:=F_congressref16_May_b1 l) (r0:=.inl false) (r1:=.inr ()) (fun i hi=>by
  simp only [F_congressref16_May_b1]
  have hp:(0:Int)≤(i:Int)∧(i:Int)<((length l:Nat):Int):=⟨by omega,by omega⟩
  obtain ⟨t,et⟩:∃t,F_congressref16_Find l (l.getD i zRight).1=some t:=by
   rcases f_Find h (l.getD i zRight).1 with ⟨e,_⟩|⟨j,e,_⟩<;>exact ⟨_,e⟩
  have et:F_congressref16_Find l (getD l (toNat (i:Int)) zRight).1=some t:=et
  rw [if_pos (by simp;omega)]
  simp only [if_pos hp,et,wi (show i<4611686018427387904 by omega),Option.bind_some]
  (repeat' split)<;>first|exact .inl rfl|exact .inr rfl|(by_cases ht:t=(i:Int)<;>simp_all)) (by simp only [F_congressref16_May_b1];rw [if_neg (by simp)])
 have e:loopO (F_congressref16_May_b1 l) 0=_∨loopO (F_congressref16_May_b1 l) 0=_:=e
 rcases e with e|e
 ·rw [e];exact ⟨false,rfl,by simp⟩
 ·rw [e];exact ⟨_,rfl,fun hb=>by have:=of_decide_eq_true hb;omega⟩
theorem eqb_self (s:Sh) (x:s.ty) (h:s.cmpB=true):Sh.eqb s x x=true:=(eqb_iff h x x).2 rfl
theorem same_Right {l:List TRight} (h:l.length≤9000000):F_congressref16_Same l l=some true:=by
 unfold F_congressref16_Same
 rw [if_neg (by simp)]
 obtain e:=loop_two (N:=l.length) (body:=F_congressref16_Same_b1 l l) (mk:=fun (k:Nat)=>(k:Int)) (r0:=.inr ()) (r1:=.inr ()) (fun i hi=>.inr (by
  simp only [F_congressref16_Same_b1]
  rw [if_pos (by simp;omega),if_pos (by omega),if_pos (by omega),if_neg (by rw [eqb_self _ _ rfl];decide),wi (by omega)])) (by simp only [F_congressref16_Same_b1];rw [if_neg (by simp)])
 have e:loopO (F_congressref16_Same_b1 l l) 0=some (.inr ()):=by rcases e with e|e<;>exact e
 rw [e];rfl
theorem same_Member {l:List TMember} (h:l.length≤9000000):F_congressref18_Same l l=some true:=by
 unfold F_congressref18_Same
 rw [if_neg (by simp)]
 obtain e:=loop_two (N:=l.length) (body:=F_congressref18_Same_b1 l l) (mk:=fun (k:Nat)=>(k:Int)) (r0:=.inr ()) (r1:=.inr ()) (fun i hi=>.inr (by
  simp only [F_congressref18_Same_b1]
  rw [if_pos (by simp;omega),if_pos (by omega),if_pos (by omega),if_neg (by rw [eqb_self _ _ rfl];decide),wi (by omega)])) (by simp only [F_congressref18_Same_b1];rw [if_neg (by simp)])
 have e:loopO (F_congressref18_Same_b1 l l) 0=some (.inr ()):=by rcases e with e|e<;>exact e
 rw [e];rfl
theorem same_Entry {l:List TEntry} (h:l.length≤9000000):F_congressref04_Entries l l=some true:=by
 unfold F_congressref04_Entries
 rw [if_neg (by simp)]
 obtain e:=loop_two (N:=l.length) (body:=F_congressref04_Entries_b1 l l) (mk:=fun (k:Nat)=>(k:Int)) (r0:=.inr ()) (r1:=.inr ()) (fun i hi=>.inr (by
  simp only [F_congressref04_Entries_b1]
  rw [if_pos (by simp;omega),if_pos (by omega),if_pos (by omega),if_neg (by rw [eqb_self _ _ rfl];decide),wi (by omega)])) (by simp only [F_congressref04_Entries_b1];rw [if_neg (by simp)])
 have e:loopO (F_congressref04_Entries_b1 l l) 0=some (.inr ()):=by rcases e with e|e<;>exact e
 rw [e];rfl
theorem same_Wait {l:List TWait} (h:l.length≤9000000):F_congressref22_Same l l=some true:=by
 unfold F_congressref22_Same
 rw [if_neg (by simp)]
 obtain e:=loop_two (N:=l.length) (body:=F_congressref22_Same_b1 l l) (mk:=fun (k:Nat)=>(k:Int)) (r0:=.inr ()) (r1:=.inr ()) (fun i hi=>.inr (by
  simp only [F_congressref22_Same_b1]
  rw [if_pos (by simp;omega),if_pos (by omega),if_pos (by omega),if_neg (by rw [eqb_self _ _ rfl];decide),wi (by omega)])) (by simp only [F_congressref22_Same_b1];rw [if_neg (by simp)])
 have e:loopO (F_congressref22_Same_b1 l l) 0=some (.inr ()):=by rcases e with e|e<;>exact e
 rw [e];rfl
theorem same_Record {l:List TRecord} (h:l.length≤9000000):F_congressref20_Same l l=some true:=by
 unfold F_congressref20_Same
 rw [if_neg (by simp)]
 obtain e:=loop_two (N:=l.length) (body:=F_congressref20_Same_b1 l l) (mk:=fun (k:Nat)=>(k:Int)) (r0:=.inr ()) (r1:=.inr ()) (fun i hi=>.inr (by
  simp only [F_congressref20_Same_b1]
  rw [if_pos (by simp;omega),if_pos (by omega),if_pos (by omega),if_neg (by rw [eqb_self _ _ rfl];decide),wi (by omega)])) (by simp only [F_congressref20_Same_b1];rw [if_neg (by simp)])
 have e:loopO (F_congressref20_Same_b1 l l) 0=some (.inr ()):=by rcases e with e|e<;>exact e
 rw [e];rfl
theorem same_u {l:List Int} (h:l.length≤9000000):F_congressref19_Same l l=some true:=by
 unfold F_congressref19_Same
 rw [if_neg (by simp)]
 obtain e:=loop_two (N:=l.length) (body:=F_congressref19_Same_b1 l l) (mk:=fun (k:Nat)=>(k:Int)) (r0:=.inr ()) (r1:=.inr ()) (fun i hi=>.inr (by
  simp only [F_congressref19_Same_b1]
  rw [if_pos (by simp;omega),if_pos (by omega),if_pos (by omega),if_neg (by simp),wi (by omega)])) (by simp only [F_congressref19_Same_b1];rw [if_neg (by simp)])
 have e:loopO (F_congressref19_Same_b1 l l) 0=some (.inr ()):=by rcases e with e|e<;>exact e
 rw [e];rfl
theorem same_ro {r:RoT} (h:r.2.length≤9000000):F_congressref17_Is r r=some true:=by
 unfold F_congressref17_Is
 rw [if_neg (by simp),Option.bind_some,if_neg (by simp)]
 obtain e:=loop_two (N:=r.2.length) (body:=F_congressref17_Is_b2 r r) (mk:=fun (k:Nat)=>(k:Int)) (r0:=.inr ()) (r1:=.inr ()) (fun i hi=>.inr (by
  simp only [F_congressref17_Is_b2]
  rw [if_pos (by simp;omega),if_pos (by omega),if_pos (by omega),if_neg (by rw [eqb_self _ _ rfl];decide),wi (by omega)])) (by simp only [F_congressref17_Is_b2];rw [if_neg (by simp)])
 have e:loopO (F_congressref17_Is_b2 r r) 0=some (.inr ()):=by rcases e with e|e<;>exact e
 rw [e];rfl
theorem f_May17 {r:RoT} (h:r.2.length≤9000000):∃b,F_congressref17_May r=some b:=by
 unfold F_congressref17_May
 have e:=loop_two (N:=r.2.length) (mk:=fun (k:Nat)=>(k:Int)) (body:=F_congressref17_May_b1 r) (r0:=.inl false) (r1:=.inr ()) (fun i hi=>by
  simp only [F_congressref17_May_b1]
  have hp:(0:Int)≤(i:Int)∧(i:Int)<((length r.2:Nat):Int):=⟨by omega,by omega⟩
  rw [if_pos (by simp;omega),if_pos hp]
  simp only [wi (show i<4611686018427387904 by omega)]
  by_cases h0:0<i
  ·have hw:wrap .i64 ((i:Int)-1)=((i-1:Nat):Int):=by rw [wr (by omega)];omega
   have hq:(0:Int)≤((i-1:Nat):Int)∧((i-1:Nat):Int)<((length r.2:Nat):Int):=⟨by omega,by omega⟩
   rw [hw,if_pos hq]
   (repeat' split)<;>first|exact .inl rfl|exact .inr rfl|(simp only [Option.bind_some];split<;>first|exact .inl rfl|exact .inr rfl)
  ·rw [if_neg (c:=decide ((i:Int)>0)=true) (by rw [decide_eq_true_eq];omega)]
   (repeat' split)<;>first|exact .inl rfl|exact .inr rfl) (by simp only [F_congressref17_May_b1];rw [if_neg (by simp)])
 have e:loopO (F_congressref17_May_b1 r) 0=_∨loopO (F_congressref17_May_b1 r) 0=_:=e
 rcases e with e|e
 ·rw [e];exact ⟨false,rfl⟩
 ·rw [e]
  simp only [Option.bind_some,Sum.elim_inr]
  split<;>exact ⟨_,rfl⟩
theorem f_Right18 (x:TMember):∃b,F_congressref18_Right x=some b:=by
 unfold F_congressref18_Right
 (repeat' split)<;>exact ⟨_,rfl⟩
theorem f_Less18 (x y:TMember):∃b,F_congressref18_Less x y=some b:=by
 unfold F_congressref18_Less
 (repeat' split)<;>exact ⟨_,rfl⟩
theorem f_Before (x y:S113.ty):∃b,F_congressref09_Before x y=some b:=by
 unfold F_congressref09_Before
 (repeat' split)<;>exact ⟨_,rfl⟩
theorem f_May18 {l:List TMember} (h:l.length≤9000000):∃b,F_congressref18_May l=some b:=by
 unfold F_congressref18_May
 have e:=loop_two (N:=l.length) (mk:=fun (k:Nat)=>(k:Int)) (body:=F_congressref18_May_b1 l) (r0:=.inl false) (r1:=.inr ()) (fun i hi=>by
  simp only [F_congressref18_May_b1]
  have hp:(0:Int)≤(i:Int)∧(i:Int)<((length l:Nat):Int):=⟨by omega,by omega⟩
  obtain ⟨t,et⟩:=f_Right18 (getD l (toNat (i:Int)) zMember)
  obtain ⟨u,eu⟩:=f_Less18 (getD l (toNat (wrap .i64 ((i:Int)-1))) zMember) (getD l (toNat (i:Int)) zMember)
  rw [if_pos (by simp;omega),if_pos hp,et,Option.bind_some]
  simp only [wi (show i<4611686018427387904 by omega)]
  by_cases h0:0<i
  ·have hw:wrap .i64 ((i:Int)-1)=((i-1:Nat):Int):=by rw [wr (by omega)];omega
   have hq:(0:Int)≤wrap .i64 ((i:Int)-1)∧wrap .i64 ((i:Int)-1)<((length l:Nat):Int):=by rw [hw];exact ⟨by omega,by omega⟩
   rw [if_pos hq,if_pos hp,eu]
   (repeat' split)<;>first|exact .inl rfl|exact .inr rfl|(simp only [Option.bind_some];split<;>first|exact .inl rfl|exact .inr rfl)
  ·rw [if_neg (c:=decide ((i:Int)>0)=true) (by rw [decide_eq_true_eq];omega)]
   (repeat' split)<;>first|exact .inl rfl|exact .inr rfl) (by simp only [F_congressref18_May_b1];rw [if_neg (by simp)])
 have e:loopO (F_congressref18_May_b1 l) 0=_∨loopO (F_congressref18_May_b1 l) 0=_:=e
 rcases e with e|e<;>rw [e]<;>exact ⟨_,rfl⟩
theorem f_May22 {l:List TWait} (h:l.length≤9000000):∃b,F_congressref22_May l=some b:=by
 unfold F_congressref22_May
 have e:=loop_two (N:=l.length) (mk:=fun (k:Nat)=>(k:Int)) (body:=F_congressref22_May_b1 l) (r0:=.inl false) (r1:=.inr ()) (fun i hi=>by
  simp only [F_congressref22_May_b1]
  have hp:(0:Int)≤(i:Int)∧(i:Int)<((length l:Nat):Int):=⟨by omega,by omega⟩
  obtain ⟨u,eu⟩:=f_Before (getD l (toNat (wrap .i64 ((i:Int)-1))) zWait).1 (getD l (toNat (i:Int)) zWait).1
  rw [if_pos (by simp;omega),if_pos hp]
  simp only [wi (show i<4611686018427387904 by omega)]
  by_cases h0:0<i
  ·have hw:wrap .i64 ((i:Int)-1)=((i-1:Nat):Int):=by rw [wr (by omega)];omega
   have hq:(0:Int)≤wrap .i64 ((i:Int)-1)∧wrap .i64 ((i:Int)-1)<((length l:Nat):Int):=by rw [hw];exact ⟨by omega,by omega⟩
   rw [if_pos hq,if_pos hp,eu]
   (repeat' split)<;>first|exact .inl rfl|exact .inr rfl|(simp only [Option.bind_some];split<;>first|exact .inl rfl|exact .inr rfl)
  ·rw [if_neg (c:=decide ((i:Int)>0)=true) (by rw [decide_eq_true_eq];omega)]
   (repeat' split)<;>first|exact .inl rfl|exact .inr rfl) (by simp only [F_congressref22_May_b1];rw [if_neg (by simp)])
 have e:loopO (F_congressref22_May_b1 l) 0=_∨loopO (F_congressref22_May_b1 l) 0=_:=e
 rcases e with e|e<;>rw [e]<;>exact ⟨_,rfl⟩
structure Small (l:LnT):Prop where
 d:l.2.2.1.length≤1100000
 r:l.2.2.2.2.1.2.length≤1100000
 t:l.2.2.2.2.2.1.length≤1100000
 w:l.2.2.2.2.2.2.1.length≤1100000
 c:l.2.2.2.2.2.2.2.1.length≤1100000
 q:l.2.2.2.2.2.2.2.2.1.length≤1100000
 b:l.2.2.2.2.2.2.2.2.2.2.1.length≤1100000
 u:l.2.2.2.2.2.2.2.2.2.2.2.1.length≤1100000
 a:l.2.2.2.2.2.2.2.2.2.2.2.2.2.2.2.length≤1100000
theorem f_May {l:LnT} (h:Small l):∃b,F_congressref23_May l=some b:=by
 unfold F_congressref23_May
 obtain ⟨b1,e1⟩:=f_May17 (r:=l.2.2.2.2.1) (by have:=h.r;omega)
 obtain ⟨b2,e2,_⟩:=f_May16 (l:=l.2.2.2.2.2.1) (by have:=h.t;omega)
 obtain ⟨b3,e3⟩:=f_May18 (l:=l.2.2.2.2.2.2.1) (by have:=h.w;omega)
 obtain ⟨b4,e4⟩:=f_May18 (l:=l.2.2.2.2.2.2.2.2.2.2.1) (by have:=h.b;omega)
 obtain ⟨b5,e5⟩:=f_May22 (l:=l.2.2.2.2.2.2.2.2.2.2.2.1) (by have:=h.u;omega)
 rw [e1,e2,e3,e4,e5]
 simp only [Option.bind_some]
 (repeat' split)<;>(try simp only [Option.bind_some])<;>(repeat' split)<;>exact ⟨_,rfl⟩
theorem f_Still {l:LnT} (h:Small l) (a:List TRecord):F_congressref23_Still (setA l a) l=some true:=by
 unfold F_congressref23_Still
 have e1:=same_u (l:=l.2.2.1) (by have:=h.d;omega)
 have e2:=same_ro (r:=l.2.2.2.2.1) (by have:=h.r;omega)
 have e3:=same_Right (l:=l.2.2.2.2.2.1) (by have:=h.t;omega)
 have e4:=same_Member (l:=l.2.2.2.2.2.2.1) (by have:=h.w;omega)
 have e5:=same_Entry (l:=l.2.2.2.2.2.2.2.1) (by have:=h.c;omega)
 have e6:=same_Entry (l:=l.2.2.2.2.2.2.2.2.1) (by have:=h.q;omega)
 have e7:=same_Member (l:=l.2.2.2.2.2.2.2.2.2.2.1) (by have:=h.b;omega)
 have e8:=same_Wait (l:=l.2.2.2.2.2.2.2.2.2.2.2.1) (by have:=h.u;omega)
 simp [e1,e2,e3,e4,e5,e6,e7,e8]
 rw [if_pos (eqb_self S33 _ rfl),if_pos (eqb_self (.arr 8 (.int .u32)) _ rfl)]
theorem Small.fit {l:LnT} (h:Small l):Fit l:=⟨by have:=h.d;omega,h.r,h.t,h.w,h.c,h.q,by have:=h.b;omega,by have:=h.u;omega,by have:=h.a;omega⟩
theorem l_LaneRights {l:LnT} (h:Small l) (k:Int) {s:Str} (hs:s.length≤1100000):F_congresslaw23_LaneRights l k s=some true:=by
 unfold F_congresslaw23_LaneRights
 obtain ⟨b,eb⟩:=f_May h
 rw [f_fixed,eb]
 simp only [Option.bind_some,Bool.not_true,Bool.false_eq_true,if_false]
 cases b with
 | false=>rfl
 | true =>
  simp only [Bool.not_true,Bool.false_eq_true,if_false]
  obtain ⟨n,m,hc⟩:=f_Call h.fit k (s:=s) (by omega)
  have hA:=h.a
  have hlen:∀r:TRecord,((length (l.2.2.2.2.2.2.2.2.2.2.2.2.2.2.2++[r]):Nat):Int)=wrap .i64 (((length l.2.2.2.2.2.2.2.2.2.2.2.2.2.2.2:Nat):Int)+1):=fun r=>by rw [wi (by omega),List.length_append];rfl
  have htk:∀r:TRecord,drop 0 (take (toNat ((length l.2.2.2.2.2.2.2.2.2.2.2.2.2.2.2:Nat):Int)) (l.2.2.2.2.2.2.2.2.2.2.2.2.2.2.2++[r]))=l.2.2.2.2.2.2.2.2.2.2.2.2.2.2.2:=fun r=>by rw [Int.toNat_natCast,List.take_left];rfl
  have hget:∀r:TRecord,getD (l.2.2.2.2.2.2.2.2.2.2.2.2.2.2.2++[r]) (toNat ((length l.2.2.2.2.2.2.2.2.2.2.2.2.2.2.2:Nat):Int)) zRecord=r:=fun r=>by rw [Int.toNat_natCast,List.getD_eq_getElem?_getD];simp
  have hsame:=same_Record (l:=l.2.2.2.2.2.2.2.2.2.2.2.2.2.2.2) (by omega)
  have hp1:∀r:TRecord,(0:Int)≤((length l.2.2.2.2.2.2.2.2.2.2.2.2.2.2.2:Nat):Int)∧0≤toNat ((length l.2.2.2.2.2.2.2.2.2.2.2.2.2.2.2:Nat):Int)∧toNat ((length l.2.2.2.2.2.2.2.2.2.2.2.2.2.2.2:Nat):Int)≤length (l.2.2.2.2.2.2.2.2.2.2.2.2.2.2.2++[r]):=fun r=>⟨by omega,by omega,by simp⟩
  have hp2:0≤((length l.2.2.2.2.2.2.2.2.2.2.2.2.2.2.2:Nat):Int)∧((length l.2.2.2.2.2.2.2.2.2.2.2.2.2.2.2:Nat):Int)<wrap .i64 (((length l.2.2.2.2.2.2.2.2.2.2.2.2.2.2.2:Nat):Int)+1):=⟨by omega,by rw [wi (by omega)];omega⟩
  rcases hc with ⟨e,e1,e2,q⟩|⟨w',q,d1,d2,d3,d4⟩
  ·rw [q,Option.bind_some]
   simp only [hlen,htk,hget,hsame,if_pos (hp1 _),if_pos hp2,Option.bind_some,bne_self_eq_false,Bool.false_eq_true,if_false,Bool.not_true,beq_self_eq_true]
   rw [if_pos (show (e != 0)=true by simp;omega),f_Still h]
   simp only [Option.bind_some,if_true]
   exact congrArg some (eqb_self S45 (sn0 e) rfl)
  ·rw [q,Option.bind_some]
   have hk:w'.2.2.2.1=0:=d2
   simp only [hlen,htk,hget,hsame,if_pos (hp1 _),if_pos hp2,Option.bind_some,bne_self_eq_false,Bool.false_eq_true,if_false,Bool.not_true,beq_self_eq_true,hk]
   by_cases ho:s=opS
   ·subst ho
    obtain ⟨x,u,g,r1,r2,r3,r4⟩:=d3 rfl
    have hr:w'.1.2.2.2.2.2.1=l.2.2.2.2.2.1++[(x,u,g,false)]:=r1
    have hx:w'.2.2.2.2.2.1=x:=r2
    have ht:=h.t
    have f1:F_congresslaw23_held l x=some false:=by
     rcases f_held (l:=l) (by omega) x with ⟨e,_⟩|⟨_,i,hi,e⟩
     ·exact e
     ·exact absurd e (r3 i hi)
    have f2:F_congresslaw23_held (setA w'.1 (l.2.2.2.2.2.2.2.2.2.2.2.2.2.2.2++[(n,m,opS,0)])) x=some true:=by
     rcases f_held (l:=setA w'.1 (l.2.2.2.2.2.2.2.2.2.2.2.2.2.2.2++[(n,m,opS,0)])) (by show w'.1.2.2.2.2.2.1.length≤_;rw [hr];simp;omega) x with ⟨_,q⟩|⟨e,_⟩
     ·exfalso
      have q:=q l.2.2.2.2.2.1.length (by show _<w'.1.2.2.2.2.2.1.length;rw [hr];simp)
      apply q
      show (w'.1.2.2.2.2.2.1.getD l.2.2.2.2.2.1.length zRight).1=x
      rw [hr,List.getD_eq_getElem?_getD]
      simp
     ·exact e
    have hl:w'.1.2.2.2.2.1.2.length=l.2.2.2.2.1.2.length+1:=r4
    have hrr:=h.r
    rw [if_pos (by rfl),hx,f1]
    simp only [Option.bind_some,Bool.not_false,if_true]
    rw [f2]
    simp only [Option.bind_some,if_true]
    rw [hl,wi (by omega)]
    simp
   ·rw [if_neg (by simpa using ho)]
    obtain ⟨i,hi,g1,g2⟩:=d4 ho
    have hi:i<l.2.2.2.2.2.1.length:=hi
    have ht:=h.t
    have e:=loop_first (N:=l.2.2.2.2.2.1.length) (mk:=fun (j:Nat)=>(j:Int)) (body:=F_congresslaw23_LaneRights_b6 (setA w'.1 (l.2.2.2.2.2.2.2.2.2.2.2.2.2.2.2++[(n,m,s,0)]),w'.2.2.1,0,0,w'.2.2.2.2.2) l) (fun j=>((l.2.2.2.2.2.1.getD j zRight).2.1==w'.2.2.1)&&!(l.2.2.2.2.2.1.getD j zRight).2.2.2) (fun _=>Sum.inl true) (Sum.inr ()) (fun j hj=>by
     simp only [F_congresslaw23_LaneRights_b6]
     rw [if_pos (by simp;omega),if_pos (by omega),Int.toNat_natCast,wi (by omega)]
     cases h1:((l.2.2.2.2.2.1.getD j zRight).2.1==w'.2.2.1) with
     | false=>simp [h1]
     | true=>cases h2:(l.2.2.2.2.2.1.getD j zRight).2.2.2<;>simp [h1,h2]) (by simp only [F_congresslaw23_LaneRights_b6];rw [if_neg (by simp)])
    have e:loopO (F_congresslaw23_LaneRights_b6 (setA w'.1 (l.2.2.2.2.2.2.2.2.2.2.2.2.2.2.2++[(n,m,s,0)]),w'.2.2.1,0,0,w'.2.2.2.2.2) l) 0=_:=e
    rw [e]
    rcases find_cases (n:=l.2.2.2.2.2.1.length) (p:=fun j=>((l.2.2.2.2.2.1.getD j zRight).2.1==w'.2.2.1)&&!(l.2.2.2.2.2.1.getD j zRight).2.2.2) rfl with ⟨_,q⟩|⟨j,e2,_⟩
    ·exfalso
     have:=q i hi
     have g1:(l.2.2.2.2.2.1.getD i zRight).2.1=w'.2.2.1:=g1
     have g2:(l.2.2.2.2.2.1.getD i zRight).2.2.2=false:=g2
     rw [g1,g2] at this
     simp at this
    ·rw [e2]
     rfl
end Go.Proofs.YtglfdihomfhmmaaGreatDoor.La
namespace Go.Proofs.YtglfdihomfhmmaaGreatDoor.La
open Go.RowKit
theorem sum_ge {α:Type} {f:α→Nat} (h:∀x,1≤f x):∀l:List α,l.length≤(l.map f).sum
 | []=>Nat.le_refl _
 | x::l=>by
  have:=sum_ge h l
  have:=h x
  simp
  omega
theorem bL {a b:Sh} {x:(Sh.prod a b).ty} {n:Nat} (h:(Sh.prod a b).bulk x≤n):a.bulk x.1≤n:=Nat.le_trans (Nat.le_add_right (a.bulk x.1) (b.bulk x.2)) h
theorem bR {a b:Sh} {x:(Sh.prod a b).ty} {n:Nat} (h:(Sh.prod a b).bulk x≤n):b.bulk x.2≤n:=Nat.le_trans (Nat.le_add_left (b.bulk x.2) (a.bulk x.1)) h
theorem bT {s:Sh} {x:s.ty} {n:Nat} (h:(Sh.st s).bulk x≤n):s.bulk x≤n:=Nat.le_trans (Nat.le_add_right (s.bulk x) 1) h
theorem bS {s:Sh} {x:List s.ty} {n:Nat} (k:∀y,1≤s.bulk y) (h:(Sh.sl s).bulk x≤n):x.length≤n:=Nat.le_trans (sum_ge k x) (Nat.le_trans (Nat.le_add_right (List.map s.bulk x).sum 1) h)
theorem one_int {k:IntKind} (y:Int):1≤(Sh.int k).bulk y:=Nat.le_refl 1
theorem small_of {l:LnT} (h:Sh.bulk S38 l≤1048576):Small l:=by
 have k0:=bT h
 have k1:=bR k0
 have k2:=bR k1
 have k3:=bR k2
 have k4:=bR k3
 have k5:=bR k4
 have k6:=bR k5
 have k7:=bR k6
 have k8:=bR k7
 have k9:=bR k8
 have k10:=bR k9
 have k11:=bR k10
 have k12:=bR k11
 have k13:=bR k12
 have k14:=bR k13
 have k15:=bR k14
 have up:1048576≤1100000:=by decide
 exact ⟨Nat.le_trans (bS one_int (bL k2)) up,Nat.le_trans (bS (s:=S120) (fun y=>Nat.le_add_left 1 _) (bR (bT (bL k4)))) up,Nat.le_trans (bS (s:=S56) (fun y=>Nat.le_add_left 1 _) (bL k5)) up,Nat.le_trans (bS (s:=S43) (fun y=>Nat.le_add_left 1 _) (bL k6)) up,Nat.le_trans (bS (s:=S58) (fun y=>Nat.le_add_left 1 _) (bL k7)) up,Nat.le_trans (bS (s:=S58) (fun y=>Nat.le_add_left 1 _) (bL k8)) up,Nat.le_trans (bS (s:=S43) (fun y=>Nat.le_add_left 1 _) (bL k10)) up,Nat.le_trans (bS (s:=S115) (fun y=>Nat.le_add_left 1 _) (bL k11)) up,Nat.le_trans (bS (s:=S53) (fun y=>Nat.le_add_left 1 _) k15) up⟩
end Go.Proofs.YtglfdihomfhmmaaGreatDoor.La
