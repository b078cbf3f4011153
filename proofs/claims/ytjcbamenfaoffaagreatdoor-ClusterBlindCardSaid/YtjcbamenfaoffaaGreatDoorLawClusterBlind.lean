/- ClusterBlind: for every input the call returns true, and its arguments read as before. -/
import Derived.Test.YtjcbamenfaoffaaGreatDoorRows
import Derived.Test.YtjcbamenfaoffaaGreatDoorCards
import Derived.Test.YtjcbamenfaoffaaGreatDoorTie
import Derived.WalkKit
import Derived.ProofKit
import Derived.OpenShut
import Derived.ChangeOld
import Derived.Below
import Derived.SizedLaws
import Derived.Deep.DeepHandedRow
import Derived.Lib.LaidTab
import Derived.Shelf.Vars
import Derived.Stop.LaidErr
import Derived.Test.YtjcbamenfaoffaaGreatDoorBClusterBlind
open List (length replicate getD drop take)
open Option.some (inj injEq)
open Int (toNat)
open Go.IntKind (wrap)
namespace Go.Proofs.YtjcbamenfaoffaaGreatDoor.clusterBlind
open Go.ChangeShapes Go.WideShapes Go.ChangeAt Go.RowKit
set_option maxRecDepth 20000
theorem params_ok:∀t∈Tryz.f8.params.toList,Tryz.prog.readableRec t=true∧t<Tryz.prog.types.size:=by
 rw [Tryz.params8]
 intro t ht
 simp only [List.mem_cons,List.mem_nil_iff,or_false] at ht
 rcases ht with rfl|rfl
 ·exact ⟨by kernel_rfl,of_decide_eq_true (by kernel_rfl)⟩
 ·exact ⟨by kernel_rfl,of_decide_eq_true (by kernel_rfl)⟩
theorem contract (H:Type) (enc:TypeId×Value→H) (W:World) (args:Array Value) (ds gs:List (DataW H)) (before:List MemPlace)
  (base:Nat) (hval0:∀(j:Nat) t v,Tryz.f8.params[j]?=some t→args[j]?=some v→Value.okWide Tryz.prog W .any base t v)
  (hW:DataW.Whole enc Tryz.prog Tryz.f8.params.toList Rows.clusterBlindSpec.vars false W args.toList ds gs before)
  (hsz0:(DataW.weightsEach Tryz.prog (Tryz.f8.params.toList++(OpenSpec.ofChange Rows.clusterBlindSpec).bare.plain.varTypes Tryz.prog) (ds++gs)).all (·≤reachBytes)=true) (hL:laidMetH Tryz.prog Rows.clusterBlindRow.laid W) (hS:W.ShapedOpen Tryz.prog) :
  Calls Tryz.prog 8 args W fun e W'=>∃v,e=.returned v∧Rows.clusterBlindSpec.post enc Tryz.prog Tryz.f8 false true false false W args v W':=by
 have hval:∀(j:Nat) t v,Tryz.f8.params[j]?=some t→args[j]?=some v→Value.okWide Tryz.prog W .any base t v:=hval0
 have hsz:(DataW.weightsEach Tryz.prog (Tryz.f8.params.toList++(OpenSpec.ofChange Rows.clusterBlindSpec).bare.plain.varTypes Tryz.prog) (ds++gs)).all (·≤reachBytes)=true:=hsz0
 have hW':=hW
 obtain ⟨p,q,hA0,hV,rfl,hfz,hnd⟩:=hW'
 have hA:DataW.TrodAll enc Tryz.prog W 0 (fun _=>true) true Tryz.f8.params.toList args.toList ds p:=hA0
 rw [Tryz.params8] at hA hval hsz
 obtain ⟨v0,vs0,d0,ds0,p0,q0,hargs,rfl,rfl,h0,r0⟩:=trodAll_cons hA
 obtain ⟨v1,vs1,d1,ds1,p1,q1,rfl,rfl,rfl,h1,r1⟩:=trodAll_cons r0
 obtain ⟨rfl,rfl,rfl⟩:=trodAll_nil r1
 obtain rfl:args=#[v0,v1]:=by cases args;simp_all
 obtain ⟨rfl,rfl⟩:=trodVars_none hV
 obtain ⟨x0,w0,b0⟩:=open_shB (n:=19) S24 (by kernel_rfl) rfl (hval 0 24 v0 rfl rfl) h0
 obtain ⟨x1,w1,b1⟩:=open_shB (n:=19) (.sl (.arr 3 (.arr 2 S39))) (by kernel_rfl) rfl (hval 1 68 v1 rfl rfl) h1
 refine (law_walk gl_free (W_congresslaw15_ClusterBlind (Cl.l_Blind (Cl.okPl_of (relV_ok w0)).1 (Cl.okFs_of (relV_ok w1)).1 (Cl.okFs_of (relV_ok w1)).2)) (us:=[v0,v1]) ⟨v0,_,rfl,w0,⟨v1,_,rfl,w1,rfl⟩⟩).mono fun e W' ⟨he,hb⟩=>⟨_,he,?_⟩
 exact law_post Tryz.laidOut params_ok rfl Tryz.underlying4 rfl hW rfl rfl rfl hb
def laidCells (cs:Array Value):Obj→Obj
 | .cells _ t frozen=>.cells cs t frozen
 | o=>o
noncomputable def laidHeap (h:Array Obj):Array Obj:=(Array.modify (Array.modify h 2 (laidCells ((.int .u8 128:Value)::(.int .u8 191:Value)::(.int .u8 160:Value)::(.int .u8 191:Value)::(.int .u8 128:Value)::(.int .u8 159:Value)::(.int .u8 144:Value)::(.int .u8 191:Value)::(.int .u8 128:Value)::(.int .u8 143:Value)::(.int .u8 0:Value)::(.int .u8 0:Value)::(.int .u8 0:Value)::(.int .u8 0:Value)::(.int .u8 0:Value)::(.int .u8 0:Value)::(.int .u8 0:Value)::(.int .u8 0:Value)::(.int .u8 0:Value)::(.int .u8 0:Value)::(.int .u8 0:Value)::(.int .u8 0:Value)::(.int .u8 0:Value)::(.int .u8 0:Value)::(.int .u8 0:Value)::(.int .u8 0:Value)::(.int .u8 0:Value)::(.int .u8 0:Value)::(.int .u8 0:Value)::(.int .u8 0:Value)::(.int .u8 0:Value)::(.int .u8 0:Value)::([]:List Value)).toArray)) 1 (laidCells (Go.Pinned.utf8FirstZ.map fun (n:Nat)=>Value.int .u8 n).toArray))
noncomputable def laidWorld (os:Os):World :=
 { World.holding Tryz.prog os ⟨#[],#[],[]⟩ with heap:=laidHeap (World.holding Tryz.prog os ⟨#[],#[],[]⟩).heap }
def wit:Array Value:=#[.agg #[.int .i64 0,.int .i64 0,.slice none 0 0],.slice none 0 0]
theorem laid_met (os:Os):laidMet Tryz.prog Rows.clusterBlindRow.laid ((laidWorld os).forCall (fun _ _=>0) ⟨#[],wit,[]⟩).memory :=
 laidMet_of_run' 8 (by kernel_rfl) (by kernel_rfl)
theorem reads (os:Os) {H:Type} (enc:TypeId×Value→H):∃places,DataW.whole enc Tryz.prog ((laidWorld os).forCall (fun _ _=>0) ⟨#[],wit,[]⟩).memory Tryz.f8.params.toList Rows.clusterBlindSpec.vars false wit.toList 8=some ([.agg [.lit (.int .i64 0),.lit (.int .i64 0),.nil],.nil],[],places) :=
 ⟨[],by kernel_rfl⟩
set_option maxRecDepth 100000 in
theorem lifted (os:Os) (started:os.Started) (H:Type) (enc:TypeId×Value→H) (F:Stop.Interp) :
  ReturnsInHanded {} Tryz.checked os 8 .any ((OpenSpec.ofChange Rows.clusterBlindSpec).preRow enc Tryz.prog Tryz.f8 Rows.clusterBlindRow.domain false Rows.clusterBlindRow.laid) (((OpenSpec.ofChange Rows.clusterBlindSpec).at F).post enc Tryz.prog Tryz.f8 false true false false):=by
 obtain ⟨places,hx⟩:=reads os enc
 refine returnsInHanded_of_row (C:=Tryz.checked) (s:=(OpenSpec.ofChange Rows.clusterBlindSpec)) Tryz.own started (by kernel_rfl) Tryz.func8
  (witness_row_at (enc:=enc) (C:=Tryz.checked) false (laidWorld os) wit rfl (by kernel_rfl) (by kernel_rfl) (by kernel_rfl)
   (OpenSpec.preRow_of_cond 8 hx (by kernel_rfl) (fun k hk=>by cases hk) (by kernel_rfl) (laid_met os))) ?_
 intro W base args ds gs before hval hW _ hcond hreach hL hS _
 exact contract H enc W args ds gs before base hval hW hreach hL hS
theorem said:Rows.ClusterBlindSaid :=
 OpenClaim.holds_of_cond 8 Tryz.f8 rfl rfl rfl rfl rfl rfl rfl ⟨rfl,rfl,rfl,rfl,rfl⟩ rfl rfl rfl rfl rfl (by kernel_rfl) Tryz.func8 (by kernel_rfl)
  (of_decide_eq_true (by kernel_rfl)) (by unfold Func.isWrapper;first|(rw [if_pos (by decide +kernel)];kernel_rfl)|(rw [if_neg (by decide +kernel)];exact ⟨rfl,rfl⟩))
  (fun os started H enc _ F=>by rw [OpenClaim.pre_eq_preRow];exact lifted os started H enc F)
theorem plain (f : FuncId) (fn : Func) (hf : Tryz.pinned.checked.prog.funcNamed "congress/congresslaw15.ClusterBlind" = some f) (hfn : Tryz.pinned.checked.prog.funcs[f]? = some fn) :
  false=Tryz.pinned.checked.prog.looks []∧∀(j:Nat) t,fn.params[j]?=some t→Tryz.pinned.checked.prog.wantsStandIn t=false:=by
 obtain rfl : f = 8 := inj ((show Tryz.prog.funcNamed "congress/congresslaw15.ClusterBlind" = some 8 by kernel_rfl).symm.trans hf) |>.symm
 obtain rfl:fn=Tryz.f8:=(inj (Tryz.func8.symm.trans hfn)).symm
 refine ⟨by kernel_rfl,fun j t ht=>?_⟩
 rw [Tryz.params8] at ht
 have hm:=Array.mem_of_getElem? ht
 simp only [List.mem_toArray,List.mem_cons,List.mem_nil_iff,or_false] at hm
 rcases hm with rfl|rfl
 ·exact (show Tryz.prog.wantsStandIn 24=false by kernel_rfl)
 ·exact (show Tryz.prog.wantsStandIn 68=false by kernel_rfl)
theorem card:Rows.ClusterBlindCardSaid :=
 Claim7.holds_tied_plain_at .later [] _ _ _ _ said (fun _ h=>by cases h) (by kernel_rfl) (fun _ h=>by cases h) clusterBlind_row_tie rfl ⟨rfl,rfl⟩ (by kernel_rfl) rfl plain (by kernel_rfl)
end Go.Proofs.YtjcbamenfaoffaaGreatDoor.clusterBlind
theorem Go.Proofs.YtjcbamenfaoffaaGreatDoor.ClusterBlind_holds:Go.Proofs.YtjcbamenfaoffaaGreatDoor.Rows.ClusterBlindCardSaid:=Go.Proofs.YtjcbamenfaoffaaGreatDoor.clusterBlind.card
