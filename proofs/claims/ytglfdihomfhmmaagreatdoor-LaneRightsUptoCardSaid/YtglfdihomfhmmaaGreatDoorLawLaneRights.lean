/- LaneRights: for every input whose reading is of bulk at most 1048576 the call returns true, and its arguments read as before. -/
import Derived.Test.YtglfdihomfhmmaaGreatDoorRows
import Derived.Test.YtglfdihomfhmmaaGreatDoorCards
import Derived.Test.YtglfdihomfhmmaaGreatDoorTie
import Derived.WalkKit
import Derived.ProofKit
import Derived.OpenShut
import Derived.ChangeOld
import Derived.Below
import Derived.SizedLaws
import Derived.Deep.DeepHandedRow
import Derived.Lib.LaidTab
import Derived.Shelf.Vars
import Derived.Stop.LaidErr
import Derived.Test.YtglfdihomfhmmaaGreatDoorBLaneRights
open List (length replicate getD drop take)
open Option.some (inj injEq)
open Int (toNat)
open Go.IntKind (wrap)
namespace Go.Proofs.YtglfdihomfhmmaaGreatDoor.laneRights
open Go.ChangeShapes Go.WideShapes Go.ChangeAt Go.RowKit
set_option maxRecDepth 20000
theorem params_ok:∀t∈Tryz.f4.params.toList,Tryz.prog.readableRec t=true∧t<Tryz.prog.types.size:=by
 rw [Tryz.params4]
 intro t ht
 simp only [List.mem_cons,List.mem_nil_iff,or_false] at ht
 rcases ht with rfl|rfl|rfl
 ·exact ⟨by kernel_rfl,of_decide_eq_true (by kernel_rfl)⟩
 ·exact ⟨by kernel_rfl,of_decide_eq_true (by kernel_rfl)⟩
 ·exact ⟨by kernel_rfl,of_decide_eq_true (by kernel_rfl)⟩
theorem table {W : World} (h : laidMet Tryz.prog Rows.laneRightsUptoRow.laid W) : Lib.TabIs Tryz.prog W "internal/strconv.uint64pow10" .u64 Lib.pow10Tab :=
 Lib.tabIs_of_head (g:=0) (t:=282) (e:=23) (n:=20) (by kernel_rfl) (by kernel_rfl) (by kernel_rfl) (by kernel_rfl) (by kernel_rfl) (by kernel_rfl) (laidMet.tail (laidMet.tail h))
theorem glE {W:World} (h:laidMet Tryz.prog Rows.laneRightsUptoRow.laid W):∀g∈GLe,∃(c:Array Value) (u:Value),memM W g=some c∧c[0]?=some u∧(u=.nilIface∨∃t p,u=.iface t p):=gle_of (laid_ifc (P:=Tryz.prog) (g:=4) (ti:=218) (laidMet.tail (laidMet.tail (laidMet.tail (laidMet.tail h)))) (by kernel_rfl) (by kernel_rfl) Tryz.underlying218) (laid_ifc (P:=Tryz.prog) (g:=5) (ti:=218) (laidMet.tail (laidMet.tail (laidMet.tail h))) (by kernel_rfl) (by kernel_rfl) Tryz.underlying218)
theorem gl {W:World} (h:laidMetH Tryz.prog Rows.laneRightsUptoRow.laid W) (hs:W.ShapedOpen Tryz.prog):GL (memM W):=by
 obtain ⟨m,hm⟩:=Go.Proofs.cell_of_shapedOpen_int (g:=1) (t:=3) (zero:=#[.int .i64 0]) (k:=.i64) hs (of_decide_eq_true (by kernel_rfl)) (by kernel_rfl) rfl (by kernel_rfl) (by kernel_rfl) (by kernel_rfl)
 obtain ⟨b,o,c,e1,e2,e3⟩:=cell_mem hm
 simp only [Addr.mk.injEq] at e1
 obtain ⟨rfl,rfl,_⟩:=e1
 refine gl_of (table h) (c:=c) (m:=m) ?_ e3 (glE h)
 have hg : Tryz.prog.globalNamed "internal/bytealg.MaxLen" = some 1 := by kernel_rfl
 unfold World.var?
 rw [hg]
 exact e2
theorem contract (H:Type) (enc:TypeId×Value→H) (W:World) (args:Array Value) (ds gs:List (DataW H)) (before:List MemPlace)
  (base:Nat) (hval0:∀(j:Nat) t v,Tryz.f4.params[j]?=some t→args[j]?=some v→Value.okWide Tryz.prog W .any base t v)
  (hW:DataW.Whole enc Tryz.prog Tryz.f4.params.toList Rows.laneRightsSpec.vars false W args.toList ds gs before) (hk0:Rows.uptoSmall H (ds++gs)=true)
  (hsz0:(DataW.weightsEach Tryz.prog (Tryz.f4.params.toList++(Rows.OpenSpec.upto Rows.laneRightsSpec).bare.plain.varTypes Tryz.prog) (ds++gs)).all (·≤reachBytes)=true) (hL:laidMetH Tryz.prog Rows.laneRightsUptoRow.laid W) (hS:W.ShapedOpen Tryz.prog) :
  Calls Tryz.prog 4 args W fun e W'=>∃v,e=.returned v∧Rows.laneRightsSpec.post enc Tryz.prog Tryz.f4 false true false false W args v W':=by
 have hval:∀(j:Nat) t v,Tryz.f4.params[j]?=some t→args[j]?=some v→Value.okWide Tryz.prog W .any base t v:=hval0
 have hsz:(DataW.weightsEach Tryz.prog (Tryz.f4.params.toList++(Rows.OpenSpec.upto Rows.laneRightsSpec).bare.plain.varTypes Tryz.prog) (ds++gs)).all (·≤reachBytes)=true:=hsz0
 have hW':=hW
 obtain ⟨p,q,hA0,hV,rfl,hfz,hnd⟩:=hW'
 have hA:DataW.TrodAll enc Tryz.prog W 0 (fun _=>true) true Tryz.f4.params.toList args.toList ds p:=hA0
 rw [Tryz.params4] at hA hval hsz
 obtain ⟨v0,vs0,d0,ds0,p0,q0,hargs,rfl,rfl,h0,r0⟩:=trodAll_cons hA
 obtain ⟨v1,vs1,d1,ds1,p1,q1,rfl,rfl,rfl,h1,r1⟩:=trodAll_cons r0
 obtain ⟨v2,vs2,d2,ds2,p2,q2,rfl,rfl,rfl,h2,r2⟩:=trodAll_cons r1
 obtain ⟨rfl,rfl,rfl⟩:=trodAll_nil r2
 obtain rfl:args=#[v0,v1,v2]:=by cases args;simp_all
 obtain ⟨rfl,rfl⟩:=trodVars_none hV
 obtain ⟨x0,w0,b0⟩:=open_shB (n:=19) S38 (by kernel_rfl) rfl (hval 0 38 v0 rfl rfl) h0
 obtain ⟨x1,w1,b1⟩:=open_shB (n:=19) (.int .u32) (by kernel_rfl) rfl (hval 1 31 v1 rfl rfl) h1
 obtain ⟨x2,w2,b2⟩:=open_shB (n:=19) .str (by kernel_rfl) rfl (hval 2 9 v2 rfl rfl) h2
 have hk:Rows.uptoBulkAll [d0,d1,d2]≤1048576:=of_decide_eq_true hk0
 simp only [Rows.uptoBulkAll] at hk
 refine (law_walk (gl hL hS) (W_congresslaw23_LaneRights (La.l_LaneRights (La.small_of (by omega)) _ (show length x2≤1100000 from by have h2:length x2+1≤_:=b2;omega))) (us:=[v0,v1,v2]) ⟨v0,_,rfl,w0,⟨v1,_,rfl,w1,⟨v2,_,rfl,w2,rfl⟩⟩⟩).mono fun e W' ⟨he,hb⟩=>⟨_,he,?_⟩
 exact law_post Tryz.laidOut params_ok rfl Tryz.underlying4 rfl hW rfl rfl rfl hb
noncomputable def low:Nat:=(World.holding Tryz.prog default ⟨#[],#[],[]⟩).heap.size
def laidCells (cs:Array Value):Obj→Obj
 | .cells _ t frozen=>.cells cs t frozen
 | o=>o
noncomputable def laidHeap (h:Array Obj):Array Obj:=(Array.modify (Array.modify (Array.modify (Array.modify (Array.modify h 2 (laidCells ((.int .u8 0:Value)::(.int .u8 1:Value)::(.int .u8 28:Value)::(.int .u8 2:Value)::(.int .u8 29:Value)::(.int .u8 14:Value)::(.int .u8 24:Value)::(.int .u8 3:Value)::(.int .u8 30:Value)::(.int .u8 22:Value)::(.int .u8 20:Value)::(.int .u8 15:Value)::(.int .u8 25:Value)::(.int .u8 17:Value)::(.int .u8 4:Value)::(.int .u8 8:Value)::(.int .u8 31:Value)::(.int .u8 27:Value)::(.int .u8 13:Value)::(.int .u8 23:Value)::(.int .u8 21:Value)::(.int .u8 19:Value)::(.int .u8 16:Value)::(.int .u8 7:Value)::(.int .u8 26:Value)::(.int .u8 12:Value)::(.int .u8 18:Value)::(.int .u8 6:Value)::(.int .u8 11:Value)::(.int .u8 5:Value)::(.int .u8 10:Value)::(.int .u8 9:Value)::([]:List Value)).toArray)) 3 (laidCells ((.int .u8 0:Value)::(.int .u8 1:Value)::(.int .u8 56:Value)::(.int .u8 2:Value)::(.int .u8 57:Value)::(.int .u8 49:Value)::(.int .u8 28:Value)::(.int .u8 3:Value)::(.int .u8 61:Value)::(.int .u8 58:Value)::(.int .u8 42:Value)::(.int .u8 50:Value)::(.int .u8 38:Value)::(.int .u8 29:Value)::(.int .u8 17:Value)::(.int .u8 4:Value)::(.int .u8 62:Value)::(.int .u8 47:Value)::(.int .u8 59:Value)::(.int .u8 36:Value)::(.int .u8 45:Value)::(.int .u8 43:Value)::(.int .u8 51:Value)::(.int .u8 22:Value)::(.int .u8 53:Value)::(.int .u8 39:Value)::(.int .u8 33:Value)::(.int .u8 30:Value)::(.int .u8 24:Value)::(.int .u8 18:Value)::(.int .u8 12:Value)::(.int .u8 5:Value)::(.int .u8 63:Value)::(.int .u8 55:Value)::(.int .u8 48:Value)::(.int .u8 27:Value)::(.int .u8 60:Value)::(.int .u8 41:Value)::(.int .u8 37:Value)::(.int .u8 16:Value)::(.int .u8 46:Value)::(.int .u8 35:Value)::(.int .u8 44:Value)::(.int .u8 21:Value)::(.int .u8 52:Value)::(.int .u8 32:Value)::(.int .u8 23:Value)::(.int .u8 11:Value)::(.int .u8 54:Value)::(.int .u8 26:Value)::(.int .u8 40:Value)::(.int .u8 15:Value)::(.int .u8 34:Value)::(.int .u8 20:Value)::(.int .u8 31:Value)::(.int .u8 10:Value)::(.int .u8 25:Value)::(.int .u8 14:Value)::(.int .u8 19:Value)::(.int .u8 9:Value)::(.int .u8 13:Value)::(.int .u8 8:Value)::(.int .u8 7:Value)::(.int .u8 6:Value)::([]:List Value)).toArray)) 0 (laidCells ((.int .u64 1:Value)::(.int .u64 10:Value)::(.int .u64 100:Value)::(.int .u64 1000:Value)::(.int .u64 10000:Value)::(.int .u64 100000:Value)::(.int .u64 1000000:Value)::(.int .u64 10000000:Value)::(.int .u64 100000000:Value)::(.int .u64 1000000000:Value)::(.int .u64 10000000000:Value)::(.int .u64 100000000000:Value)::(.int .u64 1000000000000:Value)::(.int .u64 10000000000000:Value)::(.int .u64 100000000000000:Value)::(.int .u64 1000000000000000:Value)::(.int .u64 10000000000000000:Value)::(.int .u64 100000000000000000:Value)::(.int .u64 1000000000000000000:Value)::(.int .u64 10000000000000000000:Value)::([]:List Value)).toArray)) 5 (laidCells [(Value.iface 310 (.pointer (some ⟨low+0,0,none⟩)))].toArray)) 4 (laidCells [(Value.iface 310 (.pointer (some ⟨low+1,0,none⟩)))].toArray))
noncomputable def laidWorld (os:Os):World :=
 { World.holding Tryz.prog os ⟨#[.cells #[.string ⟨#[118,97,108,117,101,32,111,117,116,32,111,102,32,114,97,110,103,101]⟩] 312,.cells #[.string ⟨#[105,110,118,97,108,105,100,32,115,121,110,116,97,120]⟩] 312],#[],[]⟩ with heap:=laidHeap (World.holding Tryz.prog os ⟨#[.cells #[.string ⟨#[118,97,108,117,101,32,111,117,116,32,111,102,32,114,97,110,103,101]⟩] 312,.cells #[.string ⟨#[105,110,118,97,108,105,100,32,115,121,110,116,97,120]⟩] 312],#[],[]⟩).heap }
def wit:Array Value:=#[.agg (.int .i64 0::.int .i64 0::.slice none 0 0::.int .i64 0::.int .u64 0::.slice none 0 0::.slice none 0 0::.slice none 0 0::.slice none 0 0::.slice none 0 0::.int .u64 0::.slice none 0 0::.slice none 0 0::.int .u32 0::.int .u32 0::.int .u32 0::.int .u32 0::.int .u32 0::.int .u32 0::.int .u32 0::.int .u32 0::.int .u32 0::.int .u32 0::.int .u32 0::.int .u64 0::.slice none 0 0::([]:List Value)).toArray,.int .u32 0,.string ⟨#[]⟩]
theorem laid_met (os:Os):laidMet Tryz.prog Rows.laneRightsUptoRow.laid ((laidWorld os).forCall (fun _ _=>0) ⟨#[],wit,[]⟩).memory :=
 laidMet_of_run' 8 (by kernel_rfl) (by kernel_rfl)
theorem reads (os:Os) {H:Type} (enc:TypeId×Value→H):∃places,DataW.whole enc Tryz.prog ((laidWorld os).forCall (fun _ _=>0) ⟨#[],wit,[]⟩).memory Tryz.f4.params.toList Rows.laneRightsSpec.vars false wit.toList 8=some ([.agg [.lit (.int .i64 0),.lit (.int .i64 0),.nil,.lit (.int .i64 0),.agg [.lit (.int .u64 0),.nil],.nil,.nil,.nil,.nil,.lit (.int .u64 0),.nil,.nil,.agg [.lit (.int .u32 0),.lit (.int .u32 0),.lit (.int .u32 0)],.agg [.lit (.int .u32 0),.lit (.int .u32 0),.lit (.int .u32 0),.lit (.int .u32 0),.lit (.int .u32 0),.lit (.int .u32 0),.lit (.int .u32 0),.lit (.int .u32 0)],.lit (.int .u64 0),.nil],.lit (.int .u32 0),.lit (.string [])],[],places) :=
 ⟨[],by kernel_rfl⟩
set_option maxRecDepth 100000 in
theorem lifted (os:Os) (started:os.Started) (H:Type) (enc:TypeId×Value→H) (F:Stop.Interp) :
  ReturnsInHanded {} Tryz.checked os 4 .any ((Rows.OpenSpec.upto Rows.laneRightsSpec).preRow enc Tryz.prog Tryz.f4 Rows.laneRightsUptoRow.domain false Rows.laneRightsUptoRow.laid) (((Rows.OpenSpec.upto Rows.laneRightsSpec).at F).post enc Tryz.prog Tryz.f4 false true false false):=by
 obtain ⟨places,hx⟩:=reads os enc
 refine returnsInHanded_of_row (C:=Tryz.checked) (s:=(Rows.OpenSpec.upto Rows.laneRightsSpec)) Tryz.own started (by kernel_rfl) Tryz.func4 (witness_row_at (enc:=enc) (C:=Tryz.checked) false (laidWorld os) wit rfl (by kernel_rfl) (by kernel_rfl) (by kernel_rfl) (OpenSpec.preRow_of_cond 8 hx (by kernel_rfl) (fun k hk=>by cases hk;kernel_rfl) (by kernel_rfl) (laid_met os))) ?_
 intro W base args ds gs before hval hW _ hcond hreach hL hS _
 exact contract H enc W args ds gs before base hval hW (hcond _ rfl) hreach hL hS
theorem said:Rows.LaneRightsUptoSaid :=
 OpenClaim.holds_of_cond 4 Tryz.f4 rfl rfl rfl rfl rfl rfl rfl ⟨rfl,rfl,rfl,rfl,rfl⟩ rfl rfl rfl rfl rfl (by kernel_rfl) Tryz.func4 (by kernel_rfl)
  (of_decide_eq_true (by kernel_rfl)) (by unfold Func.isWrapper;first|(rw [if_pos (by decide +kernel)];kernel_rfl)|(rw [if_neg (by decide +kernel)];exact ⟨rfl,rfl⟩))
  (fun os started H enc _ F=>by rw [OpenClaim.pre_eq_preRow];exact lifted os started H enc F)
theorem plain (f : FuncId) (fn : Func) (hf : Tryz.pinned.checked.prog.funcNamed "congress/congresslaw23.LaneRights" = some f) (hfn : Tryz.pinned.checked.prog.funcs[f]? = some fn) :
  true=Tryz.pinned.checked.prog.looks []∧∀(j:Nat) t,fn.params[j]?=some t→Tryz.pinned.checked.prog.wantsStandIn t=false:=by
 obtain rfl : f = 4 := inj ((show Tryz.prog.funcNamed "congress/congresslaw23.LaneRights" = some 4 by kernel_rfl).symm.trans hf) |>.symm
 obtain rfl:fn=Tryz.f4:=(inj (Tryz.func4.symm.trans hfn)).symm
 refine ⟨by kernel_rfl,fun j t ht=>?_⟩
 rw [Tryz.params4] at ht
 have hm:=Array.mem_of_getElem? ht
 simp only [List.mem_toArray,List.mem_cons,List.mem_nil_iff,or_false] at hm
 rcases hm with rfl|rfl|rfl
 ·exact (show Tryz.prog.wantsStandIn 38=false by kernel_rfl)
 ·exact (show Tryz.prog.wantsStandIn 31=false by kernel_rfl)
 ·exact (show Tryz.prog.wantsStandIn 9=false by kernel_rfl)
theorem card:Rows.LaneRightsUptoCardSaid :=
 Claim7.holds_tied_plain_at .later [] _ _ _ _ said (fun _ h=>by cases h) (by kernel_rfl) (fun _ h=>by cases h) laneRightsUpto_row_tie rfl ⟨rfl,rfl⟩ (by kernel_rfl) rfl plain (by kernel_rfl)
end Go.Proofs.YtglfdihomfhmmaaGreatDoor.laneRights
theorem Go.Proofs.YtglfdihomfhmmaaGreatDoor.LaneRights_holds:Go.Proofs.YtglfdihomfhmmaaGreatDoor.Rows.LaneRightsUptoCardSaid:=Go.Proofs.YtglfdihomfhmmaaGreatDoor.laneRights.card
