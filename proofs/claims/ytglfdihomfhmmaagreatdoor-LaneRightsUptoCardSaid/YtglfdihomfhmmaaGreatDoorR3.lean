/- Laws of my own that the statement leans on; part R3. -/
import Derived.KernelRfl
import Derived.Orders
import Derived.Laws.Cover3
import Derived.Recover
import Derived.Test.YtglfdihomfhmmaaGreatDoorR2
set_option linter.unusedVariables false
set_option linter.unusedSimpArgs false
open List (length replicate getD drop take)
open Option.some (inj injEq)
open Int (toNat)
open Go.IntKind (wrap)
namespace Go.Proofs.YtglfdihomfhmmaaGreatDoor
open Go.RowKit
inductive KI where
 | code (c:Code)
 | block (id:Nat)
 | loop (c:Code)
 | scope
 | ops (ops:Array Oper) (todo:List Nat)
def LoopWp (P:Program) (c:Code) (Q:Exit→Act→World→Prop) (a:Act) (w:World):Prop :=
 ∀(b:Frame) (k:List Item) (cs:List Frame),∃e a' w',Q e a' w'∧Arrives P (lone (b.at a (.code c::.inLoop c::k)) cs w) b k cs e a' w'
def kwp (P:Program) (F:Exit→Act→World→Prop):List KI→Exit→Act→World→Prop
 | [],e,a,w=>F e a w
 | .code c::k,e,a,w=>match e with
  | .normal=>c.wp P (kwp P F k) a w
  | e=>kwp P F k e a w
 | .block id::k,e,a,w=>match e with
  | .exit id'=>if id'=id then kwp P F k .normal a w else kwp P F k (.exit id') a w
  | e=>kwp P F k e a w
 | .loop c::k,e,a,w=>match e with
  | .normal=>LoopWp P c (kwp P F k) a w
  | e=>kwp P F k e a w
 | .scope::k,e,a,w=>kwp P F k e a w
 | .ops ops todo::k,e,a,w=>match e with
  | .normal=>wpOps P ops (kwp P F k) todo a w
  | e=>kwp P F k e a w
def popTo (id:Nat):List KI→Option (List KI)
 | []=>none
 | .block id'::k=>if Nat.beq id' id then some k else popTo id k
 | _::k=>popTo id k
theorem kwp_exit {P:Program} {F:Exit→Act→World→Prop} {id:Nat} {a:Act} {w:World}:∀{k k':List KI},popTo id k=some k'→kwp P F k' .normal a w→kwp P F k (.exit id) a w
 | [],_,h,_=>by simp [popTo] at h
 | .block id'::k,k',h,hk=>by
  simp only [popTo] at h
  by_cases e:id'=id
  ·subst e
   simp at h
   subst h
   simp only [kwp,if_true]
   exact hk
  ·have:Nat.beq id' id=false:=by
    cases hb:Nat.beq id' id with
    | false=>rfl
    | true=>exact absurd (Nat.eq_of_beq_eq_true hb) e
   rw [this] at h
   simp at h
   simp only [kwp]
   rw [if_neg (fun h=>e h.symm)]
   exact kwp_exit h hk
 | .code c::k,k',h,hk=>by simp only [kwp];exact kwp_exit (by simpa [popTo] using h) hk
 | .loop c::k,k',h,hk=>by simp only [kwp];exact kwp_exit (by simpa [popTo] using h) hk
 | .scope::k,k',h,hk=>by simp only [kwp];exact kwp_exit (by simpa [popTo] using h) hk
 | .ops o t::k,k',h,hk=>by simp only [kwp];exact kwp_exit (by simpa [popTo] using h) hk
theorem kwp_ret {P:Program} {F:Exit→Act→World→Prop} {a:Act} {w:World}:∀{k:List KI},F .ret a w→kwp P F k .ret a w
 | [],h=>h
 | .block _::k,h=>by simp only [kwp];exact kwp_ret h
 | .code _::k,h=>by simp only [kwp];exact kwp_ret h
 | .loop _::k,h=>by simp only [kwp];exact kwp_ret h
 | .scope::k,h=>by simp only [kwp];exact kwp_ret h
 | .ops _ _::k,h=>by simp only [kwp];exact kwp_ret h
def Code.sub:Code→Nat→Code
 | .seq a _,0=>a
 | .seq _ b,_=>b
 | .cond _ a _,0=>a
 | .cond _ _ b,_=>b
 | .block _ c,_=>c
 | .loop c,_=>c
 | .scope c,_=>c
 | c,_=>c
inductive CK where
 | skip|seq|cond (x:Operand)|block (id:Nat)|loop|exit (id:Nat)|scope|label|ret|region (ops:Array Oper) (draw:Bool)|other
def Code.kind:Code→CK
 | .skip=>.skip
 | .seq _ _=>.seq
 | .cond x _ _=>.cond x
 | .block id _=>.block id
 | .loop _=>.loop
 | .exit id=>.exit id
 | .scope _=>.scope
 | .label _=>.label
 | .ret=>.ret
 | .region _ ops d=>.region ops d
 | _=>.other
theorem loop_enter {P:Program} {c:Code} {Q:Exit→Act→World→Prop} {a:Act} {w:World} (h:LoopWp P c Q a w):(Code.loop c).wp P Q a w :=
 fun b k cs=>let ⟨e,a',w',q,r⟩:=h b k cs;⟨e,a',w',q,.of_steps (.one step_loop) r⟩
theorem loop_again {P:Program} {c:Code} {Q:Exit→Act→World→Prop} {a:Act} {w:World} (h:c.wp P (Exit.then (LoopWp P c Q) Q) a w):LoopWp P c Q a w:=by
 intro b k cs
 obtain ⟨e,a₁,w₁,hq,harr⟩:=h b (.inLoop c::k) cs
 cases e with
 | normal =>
  obtain ⟨e₂,a₂,w₂,hq₂,harr₂⟩:=hq b k cs
  exact ⟨e₂,a₂,w₂,hq₂,.of_steps (Steps.trans harr (.one step_inLoop)) harr₂⟩
 | exit id=>exact ⟨_,a₁,w₁,hq,.pass (x:=.inLoop c) rfl (fun _ _=>.inl (by simp)) harr⟩
 | goto l=>exact ⟨_,a₁,w₁,hq,.pass (x:=.inLoop c) rfl (fun _ _=>.inl (by simp)) harr⟩
 | ret=>exact ⟨_,a₁,w₁,hq,.pass (x:=.inLoop c) rfl (fun _ _=>.inl (by simp)) harr⟩
 | panic ch=>exact ⟨_,a₁,w₁,hq,.pass (x:=.inLoop c) rfl (fun _ _=>.inl (by simp)) harr⟩
 | outgrown=>exact ⟨_,a₁,w₁,hq,.pass (x:=.inLoop c) rfl (fun _ _=>.inl (by simp)) harr⟩
def readOne (tmps:Array Value):ResultVar→Sem Value
 | .tmp t=>pure (tmps.getD t undef)
 | .cell a t=>do loadVar t (← asAddr (tmps.getD a undef))
theorem results_eq (fn:Func) (tmps:Array Value):results fn tmps=(do let vs ← fn.results.mapM (readOne tmps);pure (if h:vs.size=1 then vs[0] else .tuple vs)):=by
 unfold results
 congr 2
def Run (P:Program) (fn:Func) {n0:Nat} (b:Base n0) (R:Exit→Act→World→Prop) (k:List KI) (ρ:AEnv) (H:AStore):Prop :=
 ∀a w,St P b ρ H a.tmps w→a.tmps.size=fn.ntmps→a.defers=b.ds→kwp P R k .normal a w
section
variable {P:Program} {fn:Func} {n0:Nat} {b:Base n0} {R:Exit→Act→World→Prop} {k:List KI} {ρ:AEnv} {H:AStore}
theorem run_seq {c:Code} (hc:Code.kind c=.seq) (h:Run P fn b R (.code (Code.sub c 0)::.code (Code.sub c 1)::k) ρ H):Run P fn b R (.code c::k) ρ H:=by
 cases c<;>simp [Code.kind] at hc
 intro a w h1 h2 h3
 refine wp_seq (wp_mono (h a w h1 h2 h3) fun e a w hq=>?_)
 cases e<;>exact hq
theorem run_skip {c:Code} (hc:Code.kind c=.skip) (h:Run P fn b R k ρ H):Run P fn b R (.code c::k) ρ H:=by
 cases c<;>simp [Code.kind] at hc
 exact fun a w h1 h2 h3=>wp_skip (h a w h1 h2 h3)
theorem run_block {c:Code} {id:Nat} (hc:Code.kind c=.block id) (h:Run P fn b R (.code (Code.sub c 0)::.block id::k) ρ H):Run P fn b R (.code c::k) ρ H:=by
 cases c<;>simp [Code.kind] at hc
 subst hc
 intro a w h1 h2 h3
 refine wp_block (wp_mono (h a w h1 h2 h3) fun e a w hq=>?_)
 cases e<;>exact hq
theorem run_exit {c:Code} {id:Nat} {k':List KI} (hc:Code.kind c=.exit id) (hk:popTo id k=some k') (h:Run P fn b R k' ρ H):Run P fn b R (.code c::k) ρ H:=by
 cases c<;>simp [Code.kind] at hc
 subst hc
 exact fun a w h1 h2 h3=>wp_exit (kwp_exit hk (h a w h1 h2 h3))
theorem run_cond {c:Code} {x:Operand} {t:Bool} (hc:Code.kind c=.cond x) (hx:evA P ρ 0 x=some (.v .bool t)) (h:Run P fn b R (.code (Code.sub c (if t then 0 else 1))::k) ρ H):Run P fn b R (.code c::k) ρ H:=by
 cases c<;>simp [Code.kind] at hc
 subst hc
 intro a w h1 h2 h3
 obtain ⟨M,φ,ξ,g1,g2⟩:=h1
 have hv:=bool_val (evA_ok g2 hx)
 refine wp_cond (t:=t) hv ?_
 have:=h a w ⟨M,φ,ξ,g1,g2⟩ h2 h3
 cases t<;>exact this
theorem run_if {c:Code} {x:Operand} {t:Bool} (hc:Code.kind c=.cond x) (hx:evA P ρ 0 x=some (.v .bool t)) (ht:t=true→Run P fn b R (.code (Code.sub c 0)::k) ρ H) (hf:t=false→Run P fn b R (.code (Code.sub c 1)::k) ρ H):Run P fn b R (.code c::k) ρ H:=by
 cases t
 ·exact run_cond hc hx (hf rfl)
 ·exact run_cond hc hx (ht rfl)
theorem run_loop {c:Code} (hc:Code.kind c=.loop) (h:Run P fn b R (.loop (Code.sub c 0)::k) ρ H):Run P fn b R (.code c::k) ρ H:=by
 cases c<;>simp [Code.kind] at hc
 exact fun a w h1 h2 h3=>loop_enter (h a w h1 h2 h3)
theorem run_again {c:Code} (h:Run P fn b R (.code c::.loop c::k) ρ H):Run P fn b R (.loop c::k) ρ H:=by
 intro a w h1 h2 h3
 refine loop_again (wp_mono (h a w h1 h2 h3) fun e a w hq=>?_)
 cases e<;>exact hq
theorem run_st {ρ':AEnv} {H':AStore} (h:Run P fn b R k ρ' H') (hs:∀tmps w,St P b ρ H tmps w→St P b ρ' H' tmps w):Run P fn b R k ρ H :=
 fun a w h1 h2 h3=>h a w (hs _ _ h1) h2 h3
def gdE (ops:Array Oper) (o:Oper) (ρ:AEnv):Option Bool :=
 match o.guard with
 | none=>some true
 | some (j,want)=>match ops[j]? with
  | some p=>match p.dst with
   | some d=>match look ρ d with
    | some (.v .bool z)=>match z with
     | true=>some want
     | false=>some (!want)
    | some .undef=>some false
    | _=>none
   | none=>none
  | none=>none
def Yld (P:Program) (o:Oper) (a:Act) (w:World) (Q:Value→World→Prop):Prop :=
 (∃v w',(execOp a.eval o).run P w=.ok (.value v) w'∧Q v w')∨(∃w',(execOp a.eval o).run P w=.ok .skip w'∧Q undef w')∨(∃f args,(execOp a.eval o).run P w=.ok (.enter f args) w∧Calls P f args w fun e w'=>∃v,e=.returned v∧Q v w')
def DoesC (P:Program) {n0:Nat} (b:Base n0) (ρ:AEnv) (H:AStore) (o:Oper) (β:AVal) (H':AStore) (L:Nat):Prop :=
 ∀M φ ξ w (a:Act),Core P b M φ ξ H w→EnvR P M φ ρ a.tmps→Yld P o a w fun v w'=>∃M' φ' ξ',Core P b M' φ' ξ' H' w'∧EnvR P M' φ' ρ a.tmps∧Later L M M' φ φ'∧RelV P M' φ' β v
theorem Does.toC {o:Oper} {β:AVal} {H':AStore} {L:Nat} (h:Does P b ρ H o β H' L):DoesC P b ρ H o β H' L:=fun M φ ξ w a hc he=>by
 obtain ⟨M',φ',ξ',w',v,k1,k2,k3,k5,k4⟩:=h M φ ξ w a hc he
 rcases k1 with k1|⟨rfl,k1⟩
 ·exact .inl ⟨v,w',k1,M',φ',ξ',k2,k3,k5,k4⟩
 ·exact .inr (.inl ⟨w',k1,M',φ',ξ',k2,k3,k5,k4⟩)
structure Orc where
 ps:List PSh
 β:AVal
 m:Option (List Nat×AStore)
def callA (P:Program) (H:AStore) (l:List AVal) (q:Orc):AVal→PR
 | .clo f caps=>match argL P H q.ps (l++caps) with
  | some (l',z,C)=>if (!z||q.β.flatB)&&q.β.labs.isEmpty then some (q.β,C++[Pure P f l' q.β]) else none
  | none=>none
 | .v (.fn s t) p=>match l,q.β with
  | [.v s' x],.v t' y=>if h:s'=s∧t'=t then some (.v t' y,[p (h.1▸x)=some (h.2▸y)]) else none
  | _,_=>none
 | _=>none
theorem does_callM {fx:Operand} {xs:Array Operand} {ts:Array TypeId} {ts':List TypeId} {l:List AVal} {α β:AVal} {q:Orc} {C:List Prop} {ty:TypeId} {dst pos after guard} (hf:evA P ρ 0 fx=some α) (hl:evL P ρ (ts'.zip xs.toList)=some l) (ht:ts'.length=xs.toList.length) (h:callA P H l q α=some (β,C)) (hC:AllP C) :
  ∀M φ ξ w (a:Act),Core P b M φ ξ H w→EnvR P M φ ρ a.tmps→Yld P ⟨dst,.call ⟨.value fx,xs,ts⟩,ty,pos,after,guard⟩ a w fun v w'=>∃M',Core P b M' φ ξ H w'∧M.le M'∧RelV P M' φ β v:=by
 intro M φ ξ w a hc he
 have hu:=evA_ok he hf
 have hr:=evL_ok he hl
 rw [zip_map a.eval _ _ ht] at hr
 have e2:xs.map a.eval=(xs.toList.map a.eval).toArray:=by apply Array.ext';simp
 have enter:∀{f:FuncId} {cap:Array Value},a.eval fx=.func (.func f) #[] cap→Enters P f→(execOp a.eval ⟨dst,.call ⟨.value fx,xs,ts⟩,ty,pos,after,guard⟩).run P w=.ok (.enter f ((xs.toList.map a.eval).toArray++cap)) w:=by
  intro f cap e h
  simp only [execOp,resolve,e,Deferred.ofValue,Sem.run_bind,Sem.run_pure,Result.andThen_ok,invoke]
  rw [e2,Array.empty_append]
  exact h _ _
 unfold callA at h
 split at h
 ·rename_i f caps
  split at h
  ·rename_i l' z C' ha
   split at h
   ·rename_i hh
    simp only [Bool.and_eq_true,Bool.or_eq_true,Bool.not_eq_true',List.isEmpty_iff] at hh
    simp only [injEq,Prod.mk.injEq] at h
    obtain ⟨rfl,rfl⟩:=h
    obtain ⟨c1,c2,_⟩:=AllP.app hC
    obtain ⟨us,e,hr2⟩:=hu
    have hz:z=true→q.β.flatB=true:=fun hz=>by
     rcases hh.1 with k|k
     ·rw [hz] at k;cases k
     ·exact k
    have:=call_pure hc ha c1 (relVs_app hr hr2) c2 hz hh.2
    refine .inr (.inr ⟨f,_,enter e c2.1,?_⟩)
    have e3:(xs.toList.map a.eval).toArray++us.toArray=(xs.toList.map a.eval++us).toArray:=by simp
    rw [e3]
    refine this.mono ?_
    rintro e w' ⟨M',v,rfl,k1,k2,k3⟩
    exact ⟨v,rfl,M',k1,k2,k3⟩
   ·cases h
  ·cases h
 ·rename_i s t p
  split at h
  ·rename_i s' x t' y hq
   split at h
   ·rename_i hh
    obtain ⟨e1,e4⟩:=hh
    subst e1 e4
    simp only [injEq,Prod.mk.injEq] at h
    obtain ⟨rfl,rfl⟩:=h
    obtain ⟨v,r,hv,h1,h2⟩:=hr
    simp only [RelVs] at h2
    subst h2
    obtain ⟨f,cap,e5,h0,h3⟩:=call_fn hc hu h1 hC.1
    refine .inr (.inr ⟨f,_,enter e5 h0,?_⟩)
    rw [hv]
    refine h3.mono ?_
    rintro e w' ⟨M',v,rfl,k1,k2,k3⟩
    exact ⟨v,rfl,M',k1,k2,k3⟩
   ·cases h
  ·cases h
 ·cases h
theorem does_call {L:Nat} {fx:Operand} {xs:Array Operand} {ts:Array TypeId} {ts':List TypeId} {l:List AVal} {α β:AVal} {q:Orc} {C:List Prop} {ty:TypeId} {dst pos after guard} (hf:evA P ρ 0 fx=some α) (hl:evL P ρ (ts'.zip xs.toList)=some l) (ht:ts'.length=xs.toList.length) (h:callA P H l q α=some (β,C)) (hC:AllP C) :
  DoesC P b ρ H ⟨dst,.call ⟨.value fx,xs,ts⟩,ty,pos,after,guard⟩ β H L:=fun M φ ξ w a hc he=>by
 rcases does_callM (ts:=ts) (ty:=ty) (dst:=dst) (pos:=pos) (after:=after) (guard:=guard) hf hl ht h hC M φ ξ w a hc he with ⟨v,w',h1,M',h2,h3,h4⟩|⟨w',h1,M',h2,h3,h4⟩|⟨f,args,h1,h2⟩
 ·exact .inl ⟨v,w',h1,M',φ,ξ,h2,he.mono h3,⟨h3,fun _ _=>rfl⟩,h4⟩
 ·exact .inr (.inl ⟨w',h1,M',φ,ξ,h2,he.mono h3,⟨h3,fun _ _=>rfl⟩,h4⟩)
 ·refine .inr (.inr ⟨f,args,h1,h2.mono ?_⟩)
  rintro e w' ⟨v,rfl,M',h2,h3,h4⟩
  exact ⟨v,rfl,M',φ,ξ,h2,he.mono h3,⟨h3,fun _ _=>rfl⟩,h4⟩
theorem does_mut {fx:Operand} {xs:Array Operand} {ts:Array TypeId} {ts':List TypeId} {l:List AVal} {α β β0:AVal} {ps:List PSh} {sg:List Nat} {K:Nat} {Ho H':AStore} {C:List Prop} {ty:TypeId} {dst pos after guard} (hf:evA P ρ 0 fx=some α) (hl:evL P ρ (ts'.zip xs.toList)=some l) (ht:ts'.length=xs.toList.length) (h:callM P n0 ρ H l ps β0 sg K Ho α=some (β,H',C)) (hC:AllP C) :
  DoesC P b ρ H ⟨dst,.call ⟨.value fx,xs,ts⟩,ty,pos,after,guard⟩ β H' K:=fun M φ ξ w a hc he=>by
 have hu:=evA_ok he hf
 have hr:=evL_ok he hl
 rw [zip_map a.eval _ _ ht] at hr
 have e2:xs.map a.eval=(xs.toList.map a.eval).toArray:=by apply Array.ext';simp
 have enter:∀{f:FuncId} {cap:Array Value},a.eval fx=.func (.func f) #[] cap→Enters P f→(execOp a.eval ⟨dst,.call ⟨.value fx,xs,ts⟩,ty,pos,after,guard⟩).run P w=.ok (.enter f ((xs.toList.map a.eval).toArray++cap)) w:=by
  intro f cap e h
  simp only [execOp,resolve,e,Deferred.ofValue,Sem.run_bind,Sem.run_pure,Result.andThen_ok,invoke]
  rw [e2,Array.empty_append]
  exact h _ _
 unfold callM at h
 split at h
 ·rename_i f caps
  split at h
  ·rename_i l' z C' Hi ha hp
   split at h
   ·rename_i hh
    simp only [Bool.and_eq_true,Bool.or_eq_true,Bool.not_eq_true'] at hh
    obtain ⟨⟨⟨⟨⟨⟨k1,k2⟩,k3⟩,k4⟩,k5⟩,k6⟩,k7⟩:=hh
    simp only [injEq,Prod.mk.injEq] at h
    obtain ⟨rfl,rfl,rfl⟩:=h
    obtain ⟨c1,c2,_⟩:=AllP.app hC
    obtain ⟨us,e,hr2⟩:=hu
    have hlt:=ltB_mem k7
    have hz':z=true→allB AItem.flatB Ho=true:=fun hz=>by
     rcases k4 with k|k
     ·rw [hz] at k;cases k
     ·exact k
    have:=call_mut hc ha c1 hp (relVs_app hr hr2) c2 (nodB_ok k1) k2 k3 hz' (nodB_ok k5) (Nat.le_of_ble_eq_true k6) (fun L hL=>hlt L (List.mem_append_right _ hL))
    refine .inr (.inr ⟨f,_,enter e c2.1,?_⟩)
    have e3:(xs.toList.map a.eval).toArray++us.toArray=(xs.toList.map a.eval++us).toArray:=by simp
    rw [e3]
    refine this.mono ?_
    rintro e w' ⟨M',φ',ξ',v,rfl,g1,g2,g3,g4⟩
    exact ⟨v,rfl,M',φ',ξ',g1,(he.labs (fun L hL=>g3 L (hlt L (List.mem_append_left _ hL)))).mono g2,⟨g2,g3⟩,g4⟩
   ·cases h
  ·cases h
 ·cases h
def AVal.isSub:AVal→Bool
 | .sub _ _ _ _=>true
 | _=>false
def stepE (P:Program) (n0:Nat) (orc:List (Nat×Orc)) (i:Nat) (ρ:AEnv) (H:AStore) (L:Nat) (o:Oper):Option (AVal×AStore×List Prop) :=
 match o.op with
 | .box T x=>match evA P ρ T x with
  | some α=>match boxA n0 ρ H T L α with
   | some (β,H')=>some (β,H',[])
   | none=>none
  | none=>none
 | .alloc T=>match allocA P n0 ρ H T L with
  | some (β,H')=>some (β,H',[])
  | none=>none
 | .store T x y=>match evA P ρ 0 x,evA P ρ T y with
  | some α,some γ=>match stoA P H T α γ with
   | some (H',C)=>some (.undef,H',C)
   | none=>none
  | _,_=>none
 | .makeMap T r=>match r with
  | none=>match mkmA P n0 ρ H T L with
   | some (β,H')=>some (β,H',[])
   | none=>none
  | some _=>none
 | .mapUpdate T m q x=>match evA P ρ 0 m,evA P ρ 0 q,evA P ρ (match mapB P T with|some r=>r.2|none=>0) x with
  | some α,some κ,some γ=>match mupA P H T α κ γ with
   | some H'=>some (.undef,H',[])
   | none=>match mupR P H T α κ γ with
    | some H'=>some (.undef,H',[])
    | none=>none
  | _,_,_=>none
 | .lookup T m q ck=>match look orc i with
  | some o'=>match ck,evA P ρ 0 m,evA P ρ 0 q with
   | false,some α,some κ=>match lkR P H T α κ o'.β with
    | some C=>some (o'.β,H,C)
    | none=>none
   | _,_,_=>none
  | none=>match pv P ρ H o.type (.lookup T m q ck) with
   | some (β,C)=>some (β,H,C)
   | none=>none
 | .mapEntry T m q=>match evA P ρ 0 m,evA P ρ 0 q with
  | some α,some κ=>menA P H T α κ
  | _,_=>none
 | .entryStore T m q x=>match evA P ρ 0 m,evA P ρ 0 q,evA P ρ (match mapB P T with|some r=>r.2|none=>0) x with
  | some α,some κ,some γ=>match mstA H T α κ γ with
   | some (H',C)=>some (.undef,H',C)
   | none=>none
  | _,_,_=>none
 | .convert s t x=>match evA P ρ s x with
  | some α=>match mkB P n0 ρ H s t L α with
   | some r=>some r
   | none=>match pv P ρ H o.type (.convert s t x) with
    | some (β,C)=>some (β,H,C)
    | none=>none
  | none=>none
 | .buildSlice T n ps=>match evL P ρ (ps.toList.map fun x=>(fieldT P T 0,x.2)) with
  | some l=>match look orc i with
   | some _=>match litF P n0 ρ H T n L (ps.toList.map (·.1)) l with
    | some β=>some (β,H,[])
    | none=>none
   | none=>match litA P n0 ρ H T n L (ps.toList.map (·.1)) l with
    | some (β,H')=>some (β,H',[])
    | none=>none
  | none=>none
 | .call ⟨.builtin .append,xs,ts⟩=>match xs.toList,ts.toList with
  | [x,y],[T,T']=>if T=T' then match evA P ρ T x,evA P ρ T y with
   | some α,some γ=>if α.isSub then appV P H T α γ else appA P n0 ρ H T L α γ
   | _,_=>none
   else match evA P ρ T x,evA P ρ T' y with
   | some α,some γ=>appS P n0 ρ H T T' L α γ
   | _,_=>none
  | _,_=>none
 | .call ⟨.builtin .clear,xs,ts⟩=>match xs.toList,ts.toList with
  | [x],[T]=>match evA P ρ T x with
   | some α=>match clrA P H T α with
    | some (H',C)=>some (.tup [],H',C)
    | none=>none
   | none=>none
  | _,_=>none
 | .call ⟨.value fx,xs,ts⟩=>match look orc i with
  | some q=>match evA P ρ 0 fx,evL P ρ (ts.toList.zip xs.toList) with
   | some α,some l=>if Nat.beq ts.toList.length xs.toList.length then match q.m with
    | some m=>callM P n0 ρ H l q.ps q.β m.1 L m.2 α
    | none=>match callA P H l q α with
     | some (β,C)=>some (β,H,C)
     | none=>none
    else none
   | _,_=>none
  | none=>none
 | _=>match pv P ρ H o.type o.op with
  | some (β,C)=>some (β,H,C)
  | none=>none
theorem stepE_ok {orc:List (Nat×Orc)} {i:Nat} {L:Nat} {o:Oper} {β:AVal} {H':AStore} {C:List Prop} (h:stepE P n0 orc i ρ H L o=some (β,H',C)) (hC:AllP C):DoesC P b ρ H o β H' L:=by
 obtain ⟨dst,op,ty,pos,after,guard⟩:=o
 have pure:∀{op:Op},(match pv P ρ H ty op with|some (β,C)=>some (β,H,C)|none=>none)=some (β,H',C)→DoesC P b ρ H ⟨dst,op,ty,pos,after,guard⟩ β H' L:=by
  intro op h
  refine Does.toC ?_
  split at h
  ·rename_i β' C' hp
   simp only [injEq,Prod.mk.injEq] at h
   obtain ⟨rfl,rfl,rfl⟩:=h
   intro M φ ξ w a hc he
   obtain ⟨v,h1,h2⟩:=pv_ok (o:=⟨dst,op,ty,pos,after,guard⟩) hc he hp hC
   exact ⟨M,φ,ξ,w,v,.inl h1,hc,he,⟨Fz.le_refl _,fun _ _=>rfl⟩,h2⟩
  ·cases h
 cases op with
 | makeMap T r =>
  cases r with
  | none =>
   simp only [stepE] at h
   split at h
   ·rename_i hb
    simp only [injEq,Prod.mk.injEq] at h
    obtain ⟨rfl,rfl,rfl⟩:=h
    exact (does_makeMap hb).toC
   ·cases h
  | some r=>simp [stepE] at h
 | mapUpdate T m q x =>
  simp only [stepE] at h
  split at h
  ·rename_i α κ γ h1 h2 h3
   split at h
   ·rename_i hb
    simp only [injEq,Prod.mk.injEq] at h
    obtain ⟨rfl,rfl,rfl⟩:=h
    exact (does_mapUpdate h1 h2 h3 hb).toC
   ·split at h
    ·rename_i hb
     simp only [injEq,Prod.mk.injEq] at h
     obtain ⟨rfl,rfl,rfl⟩:=h
     exact (does_mapUpdR h1 h2 h3 hb).toC
    ·cases h
  ·cases h
 | lookup T m q ck =>
  simp only [stepE] at h
  split at h
  ·rename_i o' ho'
   split at h
   ·rename_i α κ h1 h2
    split at h
    ·rename_i C' hb
     simp only [injEq,Prod.mk.injEq] at h
     obtain ⟨rfl,rfl,rfl⟩:=h
     refine Does.toC ?_
     intro M φ ξ w a hc he
     obtain ⟨r,g1,g2⟩:=lkR_ok hc hb hC (evA_ok he h1) (evA_ok he h2)
     exact ⟨M,φ,ξ,w,r,.inl (vN_run g1),hc,he,⟨Fz.le_refl _,fun _ _=>rfl⟩,g2⟩
    ·cases h
   ·cases h
  ·exact pure h
 | mapEntry T m q =>
  simp only [stepE] at h
  split at h
  ·rename_i α κ h1 h2
   exact (does_mapEntry h1 h2 h hC).toC
  ·cases h
 | entryStore T m q x =>
  simp only [stepE] at h
  split at h
  ·rename_i α κ γ h1 h2 h3
   split at h
   ·rename_i hb
    simp only [injEq,Prod.mk.injEq] at h
    obtain ⟨rfl,rfl,rfl⟩:=h
    exact (does_entryStore h1 h2 h3 hb hC).toC
   ·cases h
  ·cases h
 | convert s t x =>
  simp only [stepE] at h
  split at h
  ·rename_i α hα
   split at h
   ·rename_i r hr
    simp only [injEq] at h
    subst h
    exact (does_cvB hα hr).toC
   ·exact pure h
  ·cases h
 | box T x =>
  simp only [stepE] at h
  split at h
  ·rename_i α hα
   split at h
   ·rename_i hb
    simp only [injEq,Prod.mk.injEq] at h
    obtain ⟨rfl,rfl,rfl⟩:=h
    exact (does_box hα hb).toC
   ·cases h
  ·cases h
 | alloc T =>
  simp only [stepE] at h
  split at h
  ·rename_i hb
   simp only [injEq,Prod.mk.injEq] at h
   obtain ⟨rfl,rfl,rfl⟩:=h
   exact (does_alloc hb).toC
  ·cases h
 | store T x y =>
  simp only [stepE] at h
  split at h
  ·rename_i α γ hα hγ
   split at h
   ·rename_i hb
    simp only [injEq,Prod.mk.injEq] at h
    obtain ⟨rfl,rfl,rfl⟩:=h
    exact (does_store hα hγ hb hC).toC
   ·cases h
  ·cases h
 | buildSlice T n ps =>
  simp only [stepE] at h
  split at h
  ·rename_i l hl
   split at h
   ·split at h
    ·rename_i hb
     simp only [injEq,Prod.mk.injEq] at h
     obtain ⟨rfl,rfl,rfl⟩:=h
     exact (does_litF hl hb).toC
    ·cases h
   ·split at h
    ·rename_i hb
     simp only [injEq,Prod.mk.injEq] at h
     obtain ⟨rfl,rfl,rfl⟩:=h
     exact (does_lit hl hb).toC
    ·cases h
  ·cases h
 | call c =>
  obtain ⟨callee,xs,ts⟩:=c
  cases callee with
  | builtin bi =>
   cases bi with
   | append =>
    simp only [stepE] at h
    split at h
    ·rename_i x y T T' hx hT
     split at h
     ·rename_i e
      subst e
      split at h
      ·rename_i α γ hα hγ
       have e1:xs=#[x,y]:=by apply Array.ext';simpa using hx
       have e2:ts=#[T,T]:=by apply Array.ext';simpa using hT
       subst e1 e2
       split at h
       ·exact (does_appV hα hγ h hC).toC
       ·exact (does_app hα hγ h hC).toC
      ·cases h
     ·split at h
      ·rename_i α γ hα hγ
       have e1:xs=#[x,y]:=by apply Array.ext';simpa using hx
       have e2:ts=#[T,T']:=by apply Array.ext';simpa using hT
       subst e1 e2
       exact (does_appS hα hγ h hC).toC
      ·cases h
    ·cases h
   | clear =>
    simp only [stepE] at h
    split at h
    ·rename_i x T hx hT
     split at h
     ·rename_i α hα
      split at h
      ·rename_i hb
       simp only [injEq,Prod.mk.injEq] at h
       obtain ⟨rfl,rfl,rfl⟩:=h
       have e1:xs=#[x]:=by apply Array.ext';simpa using hx
       have e2:ts=#[T]:=by apply Array.ext';simpa using hT
       subst e1 e2
       exact (does_clear hα hb hC).toC
      ·cases h
     ·cases h
    ·cases h
   | _=>exact pure h
  | value fx =>
   simp only [stepE] at h
   split at h
   ·split at h
    ·rename_i α l hα hl
     split at h
     ·rename_i hn
      split at h
      ·exact does_mut hα hl (Nat.eq_of_beq_eq_true hn) h hC
      ·split at h
       ·rename_i hca
        simp only [injEq,Prod.mk.injEq] at h
        obtain ⟨rfl,rfl,rfl⟩:=h
        exact does_call hα hl (Nat.eq_of_beq_eq_true hn) hca hC
       ·cases h
     ·cases h
    ·cases h
   ·cases h
  | _=>exact pure h
 | _=>exact pure h
def dcd (dec:List (Nat×Bool)) (i:Nat) (β:AVal):AVal×List Prop :=
 match look dec i with
 | some d=>match β with
  | .v .bool z=>(.v .bool d,[z=d])
  | _=>(β,[])
 | none=>(β,[])
theorem dcd_ok {M:Fz} {φ:Nat→Value} {dec:List (Nat×Bool)} {i:Nat} {β:AVal} {v:Value} (h:RelV P M φ β v) (hC:AllP (dcd dec i β).2):RelV P M φ (dcd dec i β).1 v:=by
 unfold dcd at hC⊢
 split
 ·rename_i d hd
  simp only [hd] at hC
  split
  ·rename_i z
   have e:z=d:=hC.1
   subst e
   exact h
  ·exact h
 ·exact h
def evOps (P:Program) (n0 nt:Nat) (orc:List (Nat×Orc)) (dec:List (Nat×Bool)) (L0:Nat) (ops:Array Oper):List Nat→AEnv→AStore→Option (AEnv×AStore×List Prop)
 | [],ρ,H=>some (ρ,H,[])
 | i::l,ρ,H=>match ops[i]? with
  | none=>none
  | some o=>match gdE ops o ρ with
   | none=>none
   | some false=>match o.dst with
    | some d=>if Nat.blt d nt then evOps P n0 nt orc dec L0 ops l ((d,.undef)::ρ) H else none
    | none=>evOps P n0 nt orc dec L0 ops l ρ H
   | some true=>match stepE P n0 orc i ρ H (L0+20*i) o with
    | none=>none
    | some (β,H',C)=>match o.dst with
     | some d=>if Nat.blt d nt then match evOps P n0 nt orc dec L0 ops l ((d,(dcd dec i β).1)::ρ) H' with
      | some (ρ2,H2,C2)=>some (ρ2,H2,C++((dcd dec i β).2++C2))
      | none=>none
      else none
     | none=>match evOps P n0 nt orc dec L0 ops l ρ H' with
      | some (ρ2,H2,C2)=>some (ρ2,H2,C++C2)
      | none=>none
theorem put_size (a:Act) (dst:Option Tmp) (v:Value):(a.put dst v).tmps.size=a.tmps.size:=by cases dst<;>simp [Act.put]
theorem put_defers (a:Act) (dst:Option Tmp) (v:Value):(a.put dst v).defers=a.defers:=by cases dst<;>rfl
theorem gdE_ok {ops:Array Oper} {o:Oper} {M:Fz} {φ:Nat→Value} {a:Act} (he:EnvR P M φ ρ a.tmps) {z:Bool} (h:gdE ops o ρ=some z):Region.wanted o (yielded ops a.tmps)=z:=by
 unfold gdE at h
 split at h
 ·rename_i hg
  simp only [injEq] at h
  simp [Region.wanted,hg,h]
 ·rename_i j want hg
  split at h
  ·rename_i p hp
   split at h
   ·rename_i d hd
    split at h
    ·rename_i z' hl
     obtain ⟨v,h1,h2⟩:=he d _ hl
     have hv:=bool_val h2
     subst hv
     split at h
     ·simp only [injEq] at h
      subst h
      cases want<;>simp [Region.wanted,hg,yielded,hp,hd,h1]
     ·simp only [injEq] at h
      subst h
      cases want<;>simp [Region.wanted,hg,yielded,hp,hd,h1]
    ·rename_i hl
     obtain ⟨v,h1,h2⟩:=he d _ hl
     obtain rfl:v=undef:=h2
     simp only [injEq] at h
     subst h
     cases want<;>simp [Region.wanted,hg,yielded,hp,hd,h1,undef]
    ·cases h
   ·cases h
  ·cases h
theorem run_opsA {orc:List (Nat×Orc)} {dec:List (Nat×Bool)} {L0:Nat} {ops:Array Oper} {l2:List Nat}:∀{l:List Nat} {ρ:AEnv} {H:AStore} {ρ':AEnv} {H':AStore} {C:List Prop},evOps P n0 fn.ntmps orc dec L0 ops l ρ H=some (ρ',H',C)→AllP C→Run P fn b R (.ops ops l2::k) ρ' H'→Run P fn b R (.ops ops (l++l2)::k) ρ H
 | [],ρ,H,ρ',H',C,h,_,hr=>by
  simp only [evOps,injEq,Prod.mk.injEq] at h
  obtain ⟨rfl,rfl,rfl⟩:=h
  exact hr
 | i::l,ρ,H,ρ',H',C,h,hC,hr=>by
  intro a w h1 h2 h3
  show wpOps P ops _ (i::(l++l2)) a w
  simp only [evOps] at h
  cases ho:ops[i]? with
  | none=>simp [ho] at h
  | some o =>
   simp only [ho] at h
   obtain ⟨M,φ,ξ,g1,g2⟩:=h1
   cases hg:gdE ops o ρ with
   | none=>simp [hg] at h
   | some z =>
    have hw:=gdE_ok g2 hg
    simp only [hg] at h
    simp only [wpOps,ho,hw]
    cases z with
    | false =>
     simp only at h
     simp only [Bool.false_eq_true,if_false]
     cases hd:o.dst with
     | none =>
      simp only [hd] at h
      exact run_opsA h hC hr _ w ⟨M,φ,ξ,g1,g2⟩ h2 h3
     | some d =>
      simp only [hd] at h
      split at h
      ·rename_i hlt
       rw [Nat.blt_eq] at hlt
       refine run_opsA h hC hr _ w ⟨M,φ,ξ,g1,?_⟩ (by rw [put_size];exact h2) h3
       exact g2.put d .undef undef (by rw [h2];exact hlt) rfl
      ·cases h
    | true =>
     simp only at h
     simp only [if_true]
     left
     cases hs:stepE P n0 orc i ρ H (L0+20*i) o with
     | none=>simp [hs] at h
     | some q =>
      obtain ⟨β,H1,C1⟩:=q
      simp only [hs] at h
      cases hd:o.dst with
      | none =>
       simp only [hd] at h
       split at h
       ·rename_i ρ2 H2 C2 hrest
        simp only [injEq,Prod.mk.injEq] at h
        obtain ⟨rfl,rfl,rfl⟩:=h
        obtain ⟨c1,c2⟩:=AllP.app hC
        unfold Oper.wp
        rcases stepE_ok (b:=b) hs c1 M φ ξ w a g1 g2 with ⟨v,w',k1,M',φ',ξ',k2,k3,_,k4⟩|⟨w',k1,M',φ',ξ',k2,k3,_,k4⟩|⟨f,args,k1,k2⟩
        ·rw [k1]
         simp only [Oper.upon_value,hd]
         exact run_opsA hrest c2 hr _ w' ⟨M',φ',ξ',k2,k3⟩ h2 h3
        ·rw [k1]
         simp only [Oper.upon_skip,hd]
         exact run_opsA hrest c2 hr _ w' ⟨M',φ',ξ',k2,k3⟩ h2 h3
        ·rw [k1]
         simp only [Oper.upon_enter]
         refine k2.mono ?_
         rintro e w' ⟨v,rfl,M',φ',ξ',k2,k3,_,k4⟩
         simp only [hd]
         exact run_opsA hrest c2 hr _ w' ⟨M',φ',ξ',k2,k3⟩ h2 h3
       ·cases h
      | some d =>
       simp only [hd] at h
       split at h
       ·rename_i hlt
        rw [Nat.blt_eq] at hlt
        split at h
        ·rename_i ρ2 H2 C2 hrest
         simp only [injEq,Prod.mk.injEq] at h
         obtain ⟨rfl,rfl,rfl⟩:=h
         obtain ⟨c1,c2⟩:=AllP.app hC
         obtain ⟨c3,c4⟩:=AllP.app c2
         unfold Oper.wp
         rcases stepE_ok (b:=b) hs c1 M φ ξ w a g1 g2 with ⟨v,w',k1,M',φ',ξ',k2,k3,_,k4⟩|⟨w',k1,M',φ',ξ',k2,k3,_,k4⟩|⟨f,args,k1,k2⟩
         ·rw [k1]
          simp only [Oper.upon_value,hd]
          exact run_opsA hrest c4 hr _ w' ⟨M',φ',ξ',k2,k3.put d _ v (by rw [h2];exact hlt) (dcd_ok k4 c3)⟩ (by rw [put_size];exact h2) h3
         ·rw [k1]
          simp only [Oper.upon_skip,hd]
          exact run_opsA hrest c4 hr _ w' ⟨M',φ',ξ',k2,k3.put d _ undef (by rw [h2];exact hlt) (dcd_ok k4 c3)⟩ (by rw [put_size];exact h2) h3
         ·rw [k1]
          simp only [Oper.upon_enter]
          refine k2.mono ?_
          rintro e w' ⟨v,rfl,M',φ',ξ',k2,k3,_,k4⟩
          simp only [hd]
          exact run_opsA hrest c4 hr _ w' ⟨M',φ',ξ',k2,k3.put d _ v (by rw [h2];exact hlt) (dcd_ok k4 c3)⟩ (by rw [put_size];exact h2) h3
        ·cases h
       ·cases h
theorem run_ops {orc:List (Nat×Orc)} {dec:List (Nat×Bool)} {L0:Nat} {ops:Array Oper} {l:List Nat} {ρ:AEnv} {H:AStore} {ρ':AEnv} {H':AStore} {C:List Prop} (h:evOps P n0 fn.ntmps orc dec L0 ops l ρ H=some (ρ',H',C)) (hC:AllP C) (hr:Run P fn b R k ρ' H'):Run P fn b R (.ops ops l::k) ρ H:=by
 have:=run_opsA (l2:=[]) (k:=k) h hC hr
 rwa [List.append_nil] at this
def trimE:List Nat→AEnv→Option AEnv
 | [],_=>some []
 | t::l,ρ=>match look ρ t,trimE l ρ with
  | some α,some r=>some ((t,α)::r)
  | _,_=>none
def trimH:List Nat→AStore→Option AStore
 | [],_=>some []
 | t::l,H=>match look H t,trimH l H with
  | some α,some r=>some ((t,α)::r)
  | _,_=>none
def nodupB:List Nat→Bool
 | []=>true
 | x::l=>!l.any (Nat.beq x)&&nodupB l
theorem nodupB_ok:∀{l:List Nat},nodupB l=true→l.Nodup
 | [],_=>List.nodup_nil
 | x::l,h=>by
  simp only [nodupB,Bool.and_eq_true,Bool.not_eq_true'] at h
  rw [List.nodup_cons]
  refine ⟨fun hx=>?_,nodupB_ok h.2⟩
  have:=h.1
  rw [List.any_eq_false] at this
  exact this x hx (by simp)
theorem trimE_ok:∀{l:List Nat} {ρ ρ':AEnv},trimE l ρ=some ρ'→∀t α,look ρ' t=some α→look ρ t=some α
 | [],ρ,ρ',h,t,α,ht=>by simp only [trimE,injEq] at h;subst h;simp [look] at ht
 | x::l,ρ,ρ',h,t,α,ht=>by
  simp only [trimE] at h
  split at h
  ·rename_i β r h1 h2
   simp only [injEq] at h
   subst h
   simp only [look] at ht
   split at ht
   ·rename_i e
    have e:=Nat.eq_of_beq_eq_true e
    subst e
    rw [← ht];exact h1
   ·exact trimE_ok h2 t α ht
  ·cases h
theorem trimH_ok:∀{l:List Nat} {H H':AStore},trimH l H=some H'→H'.map Prod.fst=l∧∀x∈H',x∈H
 | [],H,H',h=>by simp only [trimH,injEq] at h;subst h;exact ⟨rfl,fun x hx=>by cases hx⟩
 | y::l,H,H',h=>by
  simp only [trimH] at h
  split at h
  ·rename_i β r h1 h2
   simp only [injEq] at h
   subst h
   obtain ⟨k1,k2⟩:=trimH_ok h2
   refine ⟨by simp [k1],fun x hx=>?_⟩
   rcases List.mem_cons.1 hx with rfl|hx
   ·exact look_mem h1
   ·exact k2 x hx
  ·cases h
theorem Core.pick {M:Fz} {φ:Nat→Value} {ξ:Nat→Option Nat} {w:World} (s:Core P b M φ ξ H w) {H':AStore} (hn:(H'.map Prod.fst).Nodup) (h:∀x∈H',x∈H):Core P b M φ ξ H' w :=
 ⟨s.le,s.same,s.over,s.below,fun L it hi=>s.items L it (h _ hi),fun L it g hi=>s.feet L it g (h _ hi),fun L L' it it' g h1 h2=>s.sep L L' it it' g (h _ h1) (h _ h2),hn,s.keep⟩
theorem St.trim {tmps:Array Value} {w:World} {ls lh:List Nat} {ρ':AEnv} {H':AStore} (h:St P b ρ H tmps w) (h1:trimE ls ρ=some ρ') (h2:trimH lh H=some H') (hn:nodupB lh=true):St P b ρ' H' tmps w:=by
 obtain ⟨M,φ,ξ,g1,g2⟩:=h
 obtain ⟨k1,k2⟩:=trimH_ok h2
 exact ⟨M,φ,ξ,g1.pick (by rw [k1];exact nodupB_ok hn) k2,fun t α ht=>g2 t α (trimE_ok h1 t α ht)⟩
def evReg (P:Program) (n0 nt:Nat) (orc:List (Nat×Orc)) (dec:List (Nat×Bool)) (L0:Nat) (ls lh:List Nat) (ops:Array Oper) (ρ:AEnv) (H:AStore):Option (AEnv×AStore×List Prop) :=
 if nodupB lh then match evOps P n0 nt orc dec L0 ops (List.range ops.size) ρ H with
  | some (ρ1,H1,C)=>match trimE ls ρ1,trimH lh H1 with
   | some ρ',some H'=>some (ρ',H',C)
   | _,_=>none
  | none=>none
 else none
theorem reg {c:Code} {ops:Array Oper} {ρ':AEnv} {H':AStore} (orc:List (Nat×Orc)) (dec:List (Nat×Bool)) (L0:Nat) (ls lh:List Nat) (C:List Prop) (hc:Code.kind c=.region ops false) (h:evReg P n0 fn.ntmps orc dec L0 ls lh ops ρ H=some (ρ',H',C)) (hC:AllP C) (hr:Run P fn b R k ρ' H'):Run P fn b R (.code c::k) ρ H:=by
 cases c<;>simp [Code.kind] at hc
 obtain ⟨rfl,rfl⟩:=hc
 unfold evReg at h
 split at h
 ·rename_i hn
  split at h
  ·rename_i ρ1 H1 C1 h1
   split at h
   ·rename_i ρ2 H2 h2 h3
    simp only [injEq,Prod.mk.injEq] at h
    obtain ⟨rfl,rfl,rfl⟩:=h
    exact fun a w g1 g2 g3=>wp_region (run_ops h1 hC (fun a w g1 g2 g3=>hr a w (g1.trim h2 h3 hn) g2 g3) a w g1 g2 g3)
   ·cases h
  ·cases h
 ·cases h
def resA (P:Program) (ρ:AEnv) (H:AStore):ResultVar→Option AVal
 | .tmp t=>look ρ t
 | .cell a T=>match look ρ a with
  | some α=>match ldA P H T α with
   | some (β,[])=>some β
   | _=>none
  | none=>none
def resAs (P:Program) (ρ:AEnv) (H:AStore):List ResultVar→Option (List AVal)
 | []=>some []
 | r::l=>match resA P ρ H r,resAs P ρ H l with
  | some α,some q=>some (α::q)
  | _,_=>none
def one:List AVal→AVal
 | [α]=>α
 | l=>.tup l
theorem readOne_ok {M:Fz} {φ:Nat→Value} {ξ:Nat→Option Nat} {w:World} (hc:Core P b M φ ξ H w) {tmps:Array Value} (he:EnvR P M φ ρ tmps) {r:ResultVar} {α:AVal} (h:resA P ρ H r=some α):∃v,(readOne tmps r).run P w=.ok v w∧RelV P M φ α v:=by
 cases r with
 | tmp t =>
  obtain ⟨v,h1,h2⟩:=he t α h
  obtain ⟨hl,h1⟩:=Array.getElem?_eq_some_iff.1 h1
  refine ⟨v,?_,h2⟩
  simp [readOne,Array.getD,hl,h1]
 | cell a T =>
  simp only [resA] at h
  split at h
  ·rename_i γ hγ
   split at h
   ·rename_i β hl
    simp only [injEq] at h
    subst h
    obtain ⟨v,h1,h2⟩:=he a γ hγ
    obtain ⟨y,h3,h4⟩:=ldA_ok hc h2 hl trivial
    obtain ⟨hlt,h1⟩:=Array.getElem?_eq_some_iff.1 h1
    refine ⟨y,?_,h4⟩
    have e:tmps.getD a undef=v:=by simp [Array.getD,hlt,h1]
    simp only [readOne,e]
    clear h1 h2 e
    unfold Instr.loadAt at h3
    cases v<;>try (simp [Instr.sureAddr] at h3;done)
    rename_i p
    cases p with
    | none=>simp [Instr.sureAddr] at h3
    | some p=>simpa [Instr.sureAddr,asAddr] using h3
   ·cases h
  ·cases h
theorem resAs_ok {M:Fz} {φ:Nat→Value} {ξ:Nat→Option Nat} {w:World} (hc:Core P b M φ ξ H w) {tmps:Array Value} (he:EnvR P M φ ρ tmps):∀{l:List ResultVar} {q:List AVal},resAs P ρ H l=some q→∃vs,(l.mapM (readOne tmps)).run P w=.ok vs w∧RelVs P M φ q vs
 | [],q,h=>by simp only [resAs,injEq] at h;subst h;exact ⟨[],by simp,rfl⟩
 | r::l,q,h=>by
  simp only [resAs] at h
  split at h
  ·rename_i α q' h1 h2
   simp only [injEq] at h
   subst h
   obtain ⟨v,k1,k2⟩:=readOne_ok hc he h1
   obtain ⟨vs,k3,k4⟩:=resAs_ok hc he h2
   exact ⟨v::vs,by simp [List.mapM_cons,k1,k3],v,vs,rfl,k2,k4⟩
  ·cases h
theorem results_ok {M:Fz} {φ:Nat→Value} {ξ:Nat→Option Nat} {w:World} (hc:Core P b M φ ξ H w) {tmps:Array Value} (he:EnvR P M φ ρ tmps) {q:List AVal} (h:resAs P ρ H fn.results.toList=some q):∃v,(results fn tmps).run P w=.ok v w∧RelV P M φ (one q) v:=by
 obtain ⟨vs,h1,h2⟩:=resAs_ok hc he h
 have hl:=relVs_len h2
 have e:(fn.results.mapM (readOne tmps)).run P w=.ok vs.toArray w:=by
  rw [Array.mapM_eq_mapM_toList]
  simp [h1]
 match q,vs,h2,hl with
 | [α],vs,h2,hl =>
  obtain ⟨v,r,rfl,h3,rfl⟩:=h2
  exact ⟨v,by rw [results_eq];simp [e],h3⟩
 | [],vs,h2,hl =>
  simp only [RelVs] at h2
  subst h2
  exact ⟨.tuple #[],by rw [results_eq];simp [e],[],rfl,rfl⟩
 | α::β::q,vs,h2,hl =>
  refine ⟨.tuple vs.toArray,?_,vs,rfl,h2⟩
  rw [results_eq]
  have:¬vs.length=1:=by rw [hl];simp
  simp [e,this]
def bodyB (P:Program) (fn:Func) {n0:Nat} (b:Base n0) (R0:Ending→World→Prop):Exit→Act→World→Prop
 | .normal,a,w|.ret,a,w=>a.defers=b.ds∧∃v,(results fn a.tmps).run P w=.ok v w∧R0 (.returned v) w
 | .panic chain,a,w=>a.defers=b.ds∧R0 (.panicked chain) w
 | .outgrown,_,w=>R0 .outgrown w
 | _,_,_=>False
theorem wp_bodyB {R0:Ending→World→Prop} {c:Code} {a:Act} {w:World} (hb:b.ds=[]) (h:c.wp P (bodyB P fn b R0) a w):c.wp P (bodyPost P fn R0) a w:=wp_mono h fun e a w hq=>by
 cases e<;>simp only [bodyB,hb] at hq<;>exact hq
theorem Core.ds {M:Fz} {φ:Nat→Value} {ξ:Nat→Option Nat} {w:World} (ds:List Deferred) (h:Core P b M φ ξ H w):Core P (⟨b.w,b.M,b.E,b.φ0,b.ok,ds⟩:Base n0) M φ ξ H w:=⟨h.le,h.same,h.over,h.below,h.items,h.feet,h.sep,h.nd,h.keep⟩
theorem Core.undo {M:Fz} {φ:Nat→Value} {ξ:Nat→Option Nat} {w:World} {ds:List Deferred} (h:Core P (⟨b.w,b.M,b.E,b.φ0,b.ok,ds⟩:Base n0) M φ ξ H w):Core P b M φ ξ H w:=⟨h.le,h.same,h.over,h.below,h.items,h.feet,h.sep,h.nd,h.keep⟩
theorem run_ret {R0:Ending→World→Prop} {c:Code} {q:List AVal} (hc:Code.kind c=.ret) (hq:resAs P ρ H fn.results.toList=some q) (h:∀M φ ξ w v,Core P b M φ ξ H w→RelV P M φ (one q) v→R0 (.returned v) w):Run P fn b (bodyB P fn b R0) (.code c::k) ρ H:=by
 cases c<;>simp [Code.kind] at hc
 intro a w g1 g2 g3
 obtain ⟨M,φ,ξ,k1,k2⟩:=g1
 obtain ⟨v,h1,h2⟩:=results_ok k1 k2 hq
 exact wp_ret (kwp_ret ⟨g3,v,h1,h M φ ξ w v k1 h2⟩)
theorem run_fall {R0:Ending→World→Prop} {q:List AVal} (hq:resAs P ρ H fn.results.toList=some q) (h:∀M φ ξ w v,Core P b M φ ξ H w→RelV P M φ (one q) v→R0 (.returned v) w):Run P fn b (bodyB P fn b R0) [] ρ H:=by
 intro a w g1 g2 g3
 obtain ⟨M,φ,ξ,k1,k2⟩:=g1
 obtain ⟨v,h1,h2⟩:=results_ok k1 k2 hq
 exact ⟨g3,v,h1,h M φ ξ w v k1 h2⟩
end
def base0 (w:World) (M:Fz) (h:Over M w):Base 0:=⟨w,M,[],φ0,h,[]⟩
def PureR (P:Program) (w:World) (M:Fz) (β:AVal):Ending→World→Prop:=fun e w'=>∃M' v,e=.returned v∧Below w.heap.size w w'∧M.le M'∧(∀g,g<w.heap.size→M' g=M g)∧Over M' w'∧RelV P M' φ0 β v
def slots:List AVal→Nat→AEnv
 | [],_=>[]
 | α::l,i=>(i,α)::slots l (i+1)
theorem slots_ok {P:Program} {M:Fz} {φ:Nat→Value} {tmps:Array Value}:∀{l:List AVal} {us:List Value} {i:Nat},RelVs P M φ l us→(∀j u,us[j]?=some u→tmps[i+j]?=some u)→EnvR P M φ (slots l i) tmps
 | [],us,i,_,_=>fun t α h=>by simp [slots,look] at h
 | β::l,us,i,⟨u,r,e,h1,h2⟩,ht=>by
  subst e
  intro t α h
  simp only [slots,look] at h
  split at h
  ·rename_i e
   have e:=Nat.eq_of_beq_eq_true e
   simp only [injEq] at h
   subst e h
   exact ⟨u,by simpa using ht 0 u rfl,h1⟩
  ·exact slots_ok h2 (fun j v hj=>by have:=ht (j+1) v (by simpa using hj);rwa [show i+(j+1)=i+1+j by omega] at this) t α h
theorem pure_of_run {P:Program} {f:FuncId} {fn:Func} {c:Code} {l:List AVal} {β:AVal} (h0:Enters P f) (hf:P.funcs[f]?=some fn) (hb:fn.body=some c) (hn:Nat.ble l.length fn.ntmps=true)
  (h:∀w M (ho:Over M w),Run P fn (base0 w M ho) (bodyB P fn (base0 w M ho) (PureR P w M β)) [.code c] (slots l 0) []):Pure P f l β:=by
 refine ⟨h0,?_⟩
 intro w M us ho hr
 have hl:=relVs_len hr
 have hn:=Nat.le_of_ble_eq_true hn
 refine calls_of_wp hf hb (wp_bodyB (b:=base0 w M ho) rfl (h w M ho _ _ ⟨M,φ0,fun _=>none,?_,?_⟩ ?_ rfl))
 ·exact ⟨Fz.le_refl _,fun _ _=>rfl,ho,BelowX.refl _ _ _,fun L it hi=>(by cases hi),fun L it g hi=>(by cases hi),fun L L' it it' g hi=>(by cases hi),by simp,fun L hL=>(by omega)⟩
 ·refine slots_ok hr fun j u hj=>?_
  have hlt:=(List.getElem?_eq_some_iff.1 hj).1
  rw [Nat.zero_add,Array.getElem?_append_left (by simpa using hlt)]
  simpa using hj
 ·simp
  omega
def MutR (P:Program) {n0:Nat} (b:Base n0) (β:AVal) (Ho:AStore) (e:Ending) (w':World):Prop:=∃M' φ' ξ' v,e=.returned v∧Core P b M' φ' ξ' Ho w'∧RelV P M' φ' β v
theorem mut_of_run {P:Program} {f:FuncId} {fn:Func} {c:Code} {n0:Nat} {l:List AVal} {Hi:AStore} {β:AVal} {Ho:AStore} (h0:Enters P f) (hf:P.funcs[f]?=some fn) (hb:fn.body=some c) (hn:Nat.ble l.length fn.ntmps=true)
  (h:∀b:Base n0,Run P fn b (bodyB P fn b (MutR P b β Ho)) [.code c] (slots l 0) Hi):Mut P f n0 l Hi β Ho:=by
 refine ⟨h0,?_⟩
 intro b ξ us hc hr
 have hl:=relVs_len hr
 have hn:=Nat.le_of_ble_eq_true hn
 refine (calls_of_wp hf hb (wp_bodyB (b:=⟨b.w,b.M,b.E,b.φ0,b.ok,[]⟩) rfl (h ⟨b.w,b.M,b.E,b.φ0,b.ok,[]⟩ _ _ ⟨b.M,b.φ0,ξ,hc.ds [],?_⟩ ?_ rfl))).mono fun e w' ⟨M',φ',ξ',v,q1,q2,q3⟩=>⟨M',φ',ξ',v,q1,q2.undo,q3⟩
 ·refine slots_ok hr fun j u hj=>?_
  have hlt:=(List.getElem?_eq_some_iff.1 hj).1
  rw [Nat.zero_add,Array.getElem?_append_left (by simpa using hlt)]
  simpa using hj
 ·simp
  omega
theorem pureR {P:Program} {w:World} {M:Fz} {ho:Over M w} {α β:AVal} (hl:α.labs=[]) (hco:∀M u,RelV P M φ0 α u→RelV P M φ0 β u) {H:AStore}:∀M' φ ξ w' v,Core P (base0 w M ho) M' φ ξ H w'→RelV P M' φ α v→PureR P w M β (.returned v) w':=by
 intro M' φ ξ w' v hc hv
 refine ⟨M',v,rfl,⟨hc.below.os,hc.below.tape,hc.below.output,hc.below.size,fun k hk=>hc.below.block k hk (by simp [base0])⟩,hc.le,hc.same,hc.over,hco _ _ (relV_labs (fun L hL=>by rw [hl] at hL;cases hL) hv)⟩
def iterO {σ τ:Type} (body:σ→Option (σ⊕τ)):Nat→σ→Option τ
 | 0,_=>none
 | n+1,s=>match body s with
  | none=>none
  | some (.inl s')=>iterO body n s'
  | some (.inr r)=>some r
theorem iterO_mono {σ τ:Type} {body:σ→Option (σ⊕τ)}:∀{n:Nat} {s:σ} {r:τ},iterO body n s=some r→∀m,n≤m→iterO body m s=some r
 | 0,s,r,h,_,_=>by simp [iterO] at h
 | n+1,s,r,h,m,hm=>by
  obtain ⟨m,rfl⟩:∃k,m=k+1:=⟨m-1,by omega⟩
  simp only [iterO] at h⊢
  split at h
  ·cases h
  ·rename_i s' e;exact iterO_mono h m (by omega)
  ·exact h
open Classical in
noncomputable def loopO {σ τ:Type} (body:σ→Option (σ⊕τ)) (s:σ):Option τ :=
 if h:∃n r,iterO body n s=some r then some h.choose_spec.choose else none
theorem loopO_iff {σ τ:Type} {body:σ→Option (σ⊕τ)} {s:σ} {r:τ}:loopO body s=some r↔∃n,iterO body n s=some r:=by
 unfold loopO
 constructor
 ·intro h
  split at h
  ·rename_i hh
   obtain rfl:=inj h
   exact ⟨hh.choose,hh.choose_spec.choose_spec⟩
  ·cases h
 ·rintro ⟨n,hn⟩
  have hh:∃n r,iterO body n s=some r:=⟨n,r,hn⟩
  rw [dif_pos hh]
  have h1:=iterO_mono hh.choose_spec.choose_spec (max hh.choose n) (Nat.le_max_left _ _)
  have h2:=iterO_mono hn (max hh.choose n) (Nat.le_max_right _ _)
  rw [h1] at h2
  exact h2
theorem loopO_eq {σ τ:Type} (body:σ→Option (σ⊕τ)) (s:σ):loopO body s=(body s).bind fun|.inl s'=>loopO body s'|.inr r=>some r:=by
 apply Option.ext
 intro r
 rw [loopO_iff]
 constructor
 ·rintro ⟨n,h⟩
  cases n with
  | zero=>simp [iterO] at h
  | succ n =>
   simp only [iterO] at h
   split at h
   ·cases h
   ·rename_i s' e;rw [e];exact loopO_iff.2 ⟨n,h⟩
   ·rename_i r' e;rw [e];exact h
 ·intro h
  cases hb:body s with
  | none=>simp [hb] at h
  | some o =>
   cases o with
   | inl s' =>
    simp only [hb,Option.bind_some] at h
    obtain ⟨n,hn⟩:=loopO_iff.1 h
    exact ⟨n+1,by simp [iterO,hb,hn]⟩
   | inr r' =>
    simp only [hb,Option.bind_some] at h
    exact ⟨1,by simp [iterO,hb,h]⟩
theorem ift {α:Type} {z:Bool} {a c:Option α} {y:α} (h:z=true) (e:(if z=true then a else c)=some y):a=some y:=by rwa [if_pos h] at e
theorem ifn {α:Type} {z:Bool} {a c:Option α} {y:α} (h:z=false) (e:(if z=true then a else c)=some y):c=some y:=by rwa [if_neg (by rw [h];decide)] at e
theorem ifg {α:Type} {p:Prop} [Decidable p] {a:Option α} {y:α} (e:(if p then a else none)=some y):p∧a=some y:=by
 by_cases h:p
 ·rw [if_pos h] at e;exact ⟨h,e⟩
 ·rw [if_neg h] at e;cases e
theorem obd {α β:Type} {o:Option α} {f:α→Option β} {y:β} (h:o.bind f=some y):∃t,o=some t∧f t=some y:=by
 cases o with
 | none=>cases h
 | some t=>exact ⟨t,rfl,h⟩
section
variable {P:Program} {fn:Func} {n0:Nat} {b:Base n0} {R:Exit→Act→World→Prop} {k:List KI} {ρ:AEnv} {H:AStore}
theorem run_loopO {σ τ:Type} {c:Code} {body:σ→Option (σ⊕τ)} {s0:σ} {r:τ} (hl:loopO body s0=some r) (ρf:σ→AEnv) (Hf:σ→AStore) (h0:ρf s0=ρ) (h1:Hf s0=H)
  (step:∀s o,body s=some o→(∀s',o=.inl s'→Run P fn b R (.loop c::k) (ρf s') (Hf s'))→(∀q,o=.inr q→q=r)→Run P fn b R (.loop c::k) (ρf s) (Hf s)):Run P fn b R (.loop c::k) ρ H:=by
 subst h0 h1
 obtain ⟨n,hn⟩:=loopO_iff.1 hl
 clear hl
 induction n generalizing s0 with
 | zero=>simp [iterO] at hn
 | succ n ih =>
  simp only [iterO] at hn
  cases hb:body s0 with
  | none=>simp [hb] at hn
  | some o =>
   refine step s0 o hb (fun s' e=>?_) (fun q e=>?_)
   ·subst e
    rw [hb] at hn
    exact ih hn
   ·subst e
    rw [hb] at hn
    exact inj hn
theorem run_cut {σ:Type} {c:Code} (Φ:σ→Prop) (ρf:σ→AEnv) (Hf:σ→AStore) (hk:∀s,Φ s→Run P fn b R k (ρf s) (Hf s)) (h:(∀s,Φ s→Run P fn b R k (ρf s) (Hf s))→Run P fn b R (.code c::k) ρ H):Run P fn b R (.code c::k) ρ H:=h hk
theorem run_trim {ρ':AEnv} {H':AStore} (ls lh:List Nat) (h1:trimE ls ρ=some ρ') (h2:trimH lh H=some H') (hn:nodupB lh=true) (h:Run P fn b R k ρ' H'):Run P fn b R k ρ H :=
 run_st h fun _ _ g=>g.trim h1 h2 hn
def coeA (t:Sh):AVal→Option AVal
 | .v s x=>if t.fixed&&(s.agg==t.agg) then match coeS s t x with
  | some y=>some (.v t y)
  | none=>none
  else none
 | _=>none
theorem coeA_ok {M:Fz} {φ:Nat→Value} {t:Sh} {α β:AVal} {u:Value} (h:coeA t α=some β) (hr:RelV P M φ α u):RelV P M φ β u:=by
 unfold coeA at h
 split at h
 ·split at h
  ·rename_i s x hh
   simp only [Bool.and_eq_true,beq_iff_eq] at hh
   split at h
   ·rename_i y hy
    simp only [injEq] at h
    subst h
    obtain ⟨_,cs,rfl,hc⟩:=hr
    exact ⟨hh.1,cs,by simp [mkV,hh.2],coeS_ok hy hc⟩
   ·cases h
  ·cases h
 ·cases h
def mapE (t:Nat) (f:AVal→Option AVal):AEnv→Option AEnv
 | []=>some []
 | (s,α)::ρ=>match (if Nat.beq s t then f α else some α),mapE t f ρ with
  | some β,some r=>some ((s,β)::r)
  | _,_=>none
theorem mapE_ok {M:Fz} {φ:Nat→Value} {t:Nat} {f:AVal→Option AVal} (hf:∀α β u,f α=some β→RelV P M φ α u→RelV P M φ β u):∀{ρ ρ':AEnv} {tmps:Array Value},mapE t f ρ=some ρ'→EnvR P M φ ρ tmps→EnvR P M φ ρ' tmps
 | [],ρ',tmps,h,_=>by simp only [mapE,injEq] at h;subst h;exact fun s α hs=>by simp [look] at hs
 | (s,α)::ρ,ρ',tmps,h,he=>by
  simp only [mapE] at h
  split at h
  ·rename_i β r h1 h2
   simp only [injEq] at h
   subst h
   have hne:∀q γ,look r q=some γ→Nat.beq s q=false→∃v,tmps[q]?=some v∧RelV P M φ γ v:=by
    have hlook:∀{ρ r:AEnv},mapE t f ρ=some r→∀q γ,look r q=some γ→∃δ,look ρ q=some δ∧(γ=δ∨f δ=some γ):=by
     intro ρ
     induction ρ with
     | nil=>intro r h q γ hq;simp only [mapE,injEq] at h;subst h;simp [look] at hq
     | cons y ρ ih =>
      obtain ⟨s',α'⟩:=y
      intro r h q γ hq
      simp only [mapE] at h
      split at h
      ·rename_i β' r' k1 k2
       simp only [injEq] at h
       subst h
       simp only [look] at hq⊢
       split at hq
       ·rename_i e
        simp only [injEq] at hq
        subst hq
        rw [if_pos e]
        refine ⟨α',rfl,?_⟩
        split at k1
        ·exact .inr k1
        ·exact .inl (inj k1).symm
       ·rename_i e
        rw [if_neg e]
        exact ih k2 q γ hq
      ·cases h
    intro q γ hq hs
    obtain ⟨δ,k1,k2⟩:=hlook h2 q γ hq
    obtain ⟨v,k3,k4⟩:=he q δ (by simp only [look,hs];simpa using k1)
    refine ⟨v,k3,?_⟩
    rcases k2 with rfl|k2
    ·exact k4
    ·exact hf _ _ _ k2 k4
   intro q γ hq
   simp only [look] at hq
   split at hq
   ·rename_i e
    have e':=Nat.eq_of_beq_eq_true e
    simp only [injEq] at hq
    subst e' hq
    obtain ⟨v,k1,k2⟩:=he s α (by simp [look])
    refine ⟨v,k1,?_⟩
    split at h1
    ·exact hf _ _ _ h1 k2
    ·obtain rfl:=inj h1;exact k2
   ·rename_i e
    exact hne q γ hq (Bool.eq_false_iff.2 e)
  ·cases h
end
def depB (ops:Array Oper) (i j:Nat):Bool :=
 match ops[i]? with
 | some o=>o.after.any fun e=>Region.binds .any e&&Nat.beq e.on j
 | none=>false
def dstOf (ops:Array Oper) (i:Nat):Option Tmp :=
 match ops[i]? with
 | some o=>o.dst
 | none=>none
theorem depB_spec {ops:Array Oper} {i j:Nat} (h:depB ops i j=true):∃o,ops[i]?=some o∧∃e∈o.after,Region.binds .any e=true∧e.on=j:=by
 unfold depB at h
 cases ho:ops[i]? with
 | none=>simp [ho] at h
 | some o =>
  simp only [ho] at h
  obtain ⟨e,he,hb⟩:=Array.any_eq_true'.1 h
  simp only [Bool.and_eq_true] at hb
  exact ⟨o,rfl,e,he,hb.1,Nat.eq_of_beq_eq_true hb.2⟩
def resEnv (ops:Array Oper) (i:Nat):List AVal→Nat→AEnv
 | [],_=>[]
 | α::l,j=>match dstOf ops j with
  | some d=>if depB ops i j then (d,α)::resEnv ops i l (j+1) else resEnv ops i l (j+1)
  | none=>resEnv ops i l (j+1)
def allEnv (ops:Array Oper):List AVal→Nat→AEnv
 | [],_=>[]
 | α::l,j=>match dstOf ops j with
  | some d=>(d,α)::allEnv ops l (j+1)
  | none=>allEnv ops l (j+1)
def headOne (P:Program) (orc:List (Nat×Orc)) (dec:List (Nat×Bool)) (ops:Array Oper) (ρ1:AEnv) (H:AStore) (res:List AVal) (i:Nat):PR :=
 match ops[i]? with
 | none=>none
 | some o=>match gdE ops o (resEnv ops i res 0++ρ1) with
  | none=>none
  | some false=>some (.undef,[])
  | some true=>match o.op with
   | .call ⟨.value fx,xs,ts⟩=>match look orc i with
    | some q=>match evA P (resEnv ops i res 0++ρ1) 0 fx,evL P (resEnv ops i res 0++ρ1) (ts.toList.zip xs.toList) with
     | some α,some l=>if Nat.beq ts.toList.length xs.toList.length then match callA P H l q α with
      | some (β,C)=>some ((dcd dec i β).1,C++(dcd dec i β).2)
      | none=>none
      else none
     | _,_=>none
    | none=>none
   | _=>match pv P (resEnv ops i res 0++ρ1) H o.type o.op with
    | some (β,C)=>some ((dcd dec i β).1,C++(dcd dec i β).2)
    | none=>none
section
variable {P:Program} {fn:Func} {n0:Nat} {b:Base n0} {R:Exit→Act→World→Prop} {k:List KI} {ρ ρ1:AEnv} {H:AStore} {ops:Array Oper} {orc:List (Nat×Orc)} {dec:List (Nat×Bool)}
theorem resEnv_app {i:Nat}:∀{l m:List AVal} {j:Nat},(∀x,j+l.length≤x→depB ops i x=false)→resEnv ops i (l++m) j=resEnv ops i l j
 | [],m,j,h=>by
  induction m generalizing j with
  | nil=>rfl
  | cons α m ih =>
   have h0:=h j (by simp)
   show resEnv ops i (α::m) j=[]
   simp only [resEnv,h0]
   have:=ih (j:=j+1) (fun x hx=>h x (by simp at hx ⊢;omega))
   simp only [List.nil_append] at this
   split<;>simp_all [resEnv]
 | α::l,m,j,h=>by
  have:=resEnv_app (i:=i) (l:=l) (m:=m) (j:=j+1) (fun x hx=>h x (by simp at hx ⊢;omega))
  simp only [List.cons_append,resEnv,this]
theorem nodup_lt {l:List Nat} {m:Nat} (h:l.Nodup) (hl:∀i∈l,i<m):l.length≤m:=by
 have:=h.length_le_of_subset (l₂:=List.range m) fun i hi=>List.mem_range.2 (hl i hi)
 simpa using this
theorem nodup_ge {l:List Nat} {m:Nat} (h:∀i,i<m→i∈l):m≤l.length:=by
 have:=(List.nodup_range (n:=m)).length_le_of_subset (l₂:=l) fun i hi=>h i (List.mem_range.1 hi)
 simpa using this
theorem look_resEnv {i:Nat}:∀{l:List AVal} {j t:Nat} {α:AVal},look (resEnv ops i l j) t=some α→∃q,l[q]?=some α∧dstOf ops (j+q)=some t∧depB ops i (j+q)=true
 | [],j,t,α,h=>by simp [resEnv,look] at h
 | β::l,j,t,α,h=>by
  have go:look (resEnv ops i l (j+1)) t=some α→∃q,(β::l)[q]?=some α∧dstOf ops (j+q)=some t∧depB ops i (j+q)=true:=fun h=>by
   obtain ⟨q,h1,h2,h3⟩:=look_resEnv h
   exact ⟨q+1,by simpa using h1,by rwa [show j+(q+1)=j+1+q by omega],by rwa [show j+(q+1)=j+1+q by omega]⟩
  simp only [resEnv] at h
  split at h
  ·rename_i d hd
   split at h
   ·rename_i hdep
    simp only [look] at h
    split at h
    ·rename_i e
     have e:=Nat.eq_of_beq_eq_true e
     simp only [injEq] at h
     subst e h
     exact ⟨0,rfl,hd,hdep⟩
    ·exact go h
   ·exact go h
  ·exact go h
theorem look_allEnv:∀{l:List AVal} {j t:Nat} {α:AVal},look (allEnv ops l j) t=some α→∃q,l[q]?=some α∧dstOf ops (j+q)=some t
 | [],j,t,α,h=>by simp [allEnv,look] at h
 | β::l,j,t,α,h=>by
  have go:look (allEnv ops l (j+1)) t=some α→∃q,(β::l)[q]?=some α∧dstOf ops (j+q)=some t:=fun h=>by
   obtain ⟨q,h1,h2⟩:=look_allEnv h
   exact ⟨q+1,by simpa using h1,by rwa [show j+(q+1)=j+1+q by omega]⟩
  simp only [allEnv] at h
  split at h
  ·rename_i d hd
   simp only [look] at h
   split at h
   ·rename_i e
    have e:=Nat.eq_of_beq_eq_true e
    simp only [injEq] at h
    subst e h
    exact ⟨0,rfl,hd⟩
   ·exact go h
  ·exact go h
theorem look_app {α:Type} (a c:List (Nat×α)) (t:Nat):look (a++c) t=match look a t with|some v=>some v|none=>look c t:=by
 induction a with
 | nil=>rfl
 | cons x a ih =>
  obtain ⟨s,v⟩:=x
  simp only [List.cons_append,look]
  cases hb:Nat.beq s t with
  | true=>simp
  | false=>simpa using ih
theorem headOne_ok {M:Fz} {φ:Nat→Value} {ξ:Nat→Option Nat} {w:World} {a:Act} {res:List AVal} {i:Nat} {β:AVal} {C:List Prop} (hc:Core P b M φ ξ H w) (he:EnvR P M φ (resEnv ops i res 0++ρ1) a.tmps) (h:headOne P orc dec ops ρ1 H res i=some (β,C)) (hC:AllP C) :
  ∃o,ops[i]?=some o∧((Region.wanted o (yielded ops a.tmps)=false∧β=.undef)∨(Region.wanted o (yielded ops a.tmps)=true∧Yld P o a w fun v w'=>∃M',Core P b M' φ ξ H w'∧M.le M'∧RelV P M' φ β v)):=by
 unfold headOne at h
 split at h
 ·cases h
 ·rename_i o ho
  refine ⟨o,ho,?_⟩
  split at h
  ·cases h
  ·rename_i hg
   simp only [injEq,Prod.mk.injEq] at h
   exact .inl ⟨gdE_ok he hg,h.1.symm⟩
  ·rename_i hg
   right
   refine ⟨gdE_ok he hg,?_⟩
   obtain ⟨dst,op,ty,pos,after,guard⟩:=o
   have pure:(match pv P (resEnv ops i res 0++ρ1) H ty op with|some (β,C)=>some ((dcd dec i β).1,C++(dcd dec i β).2)|none=>none)=some (β,C)→Yld P ⟨dst,op,ty,pos,after,guard⟩ a w fun v w'=>∃M',Core P b M' φ ξ H w'∧M.le M'∧RelV P M' φ β v:=by
    intro h
    split at h
    ·rename_i γ C' hp
     simp only [injEq,Prod.mk.injEq] at h
     obtain ⟨rfl,rfl⟩:=h
     obtain ⟨c1,c2⟩:=AllP.app hC
     obtain ⟨v,h1,h2⟩:=pv_ok (o:=⟨dst,op,ty,pos,after,guard⟩) hc he hp c1
     exact .inl ⟨v,w,h1,M,hc,Fz.le_refl _,dcd_ok h2 c2⟩
    ·cases h
   cases op with
   | call c =>
    obtain ⟨callee,xs,ts⟩:=c
    cases callee with
    | value fx =>
     simp only at h
     split at h
     ·rename_i q hq
      split at h
      ·rename_i α l hα hl
       split at h
       ·rename_i hn
        split at h
        ·rename_i γ C' hca
         simp only [injEq,Prod.mk.injEq] at h
         obtain ⟨rfl,rfl⟩:=h
         obtain ⟨c1,c2⟩:=AllP.app hC
         have:=does_callM (ts:=ts) (ty:=ty) (dst:=dst) (pos:=pos) (after:=after) (guard:=guard) hα hl (Nat.eq_of_beq_eq_true hn) hca c1 M φ ξ w a hc he
         rcases this with ⟨v,w',h1,M',h2,h3,h4⟩|⟨w',h1,M',h2,h3,h4⟩|⟨f,args,h1,h2⟩
         ·exact .inl ⟨v,w',h1,M',h2,h3,dcd_ok h4 c2⟩
         ·exact .inr (.inl ⟨w',h1,M',h2,h3,dcd_ok h4 c2⟩)
         ·refine .inr (.inr ⟨f,args,h1,h2.mono ?_⟩)
          rintro e w' ⟨v,rfl,M',h2,h3,h4⟩
          exact ⟨v,rfl,M',h2,h3,dcd_ok h4 c2⟩
        ·cases h
       ·cases h
      ·cases h
     ·cases h
    | _=>exact pure h
   | _=>exact pure h
theorem put_get {a:Act} {dst:Option Tmp} {v:Value} {t:Nat} (h:dst≠some t):(a.put dst v).tmps[t]?=a.tmps[t]?:=by
 cases dst with
 | none=>rfl
 | some d =>
  have:d≠t:=fun e=>h (by rw [e])
  simp [Act.put,this]
def keepB (ops:Array Oper) (m:Nat) (ρ:AEnv):AEnv:=ρ.filter fun x=>(List.range m).all fun i=>match dstOf ops i with|some d=>!Nat.beq d x.1|none=>true
theorem look_keep {m t:Nat} {α:AVal}:∀{ρ:AEnv},look (keepB ops m ρ) t=some α→look ρ t=some α
 | [],h=>by simp [keepB,look] at h
 | (s,β)::ρ,h=>by
  unfold keepB at h
  simp only [List.filter_cons] at h
  split at h
  ·simp only [look] at h⊢
   split at h
   ·rename_i e;rw [if_pos e];exact h
   ·rename_i e;rw [if_neg e];exact look_keep h
  ·rename_i hk
   simp only [look]
   split
   ·rename_i e
    have e:=Nat.eq_of_beq_eq_true e
    subst e
    exfalso
    have hm:=look_mem h
    have:=(List.mem_filter.1 hm).2
    exact hk this
   ·exact look_keep h
end
def mapA (f:AVal→Option AVal):AEnv→Option AEnv
 | []=>some []
 | (s,α)::ρ=>match f α,mapA f ρ with
  | some β,some r=>some ((s,β)::r)
  | _,_=>none
def nilA (R:Nat):AVal→Option AVal
 | .v (.nl _) _=>some (.row R)
 | _=>none
def renA (N R:Nat):AVal→Option AVal
 | .row L=>some (.row (if Nat.beq L N then R else L))
 | α=>some α
def frzA (L:Nat) (s:Sh) (xs:List s.ty):AVal→Option AVal
 | .row L'=>if Nat.beq L' L then some (.v (.sl s) xs) else some (.row L')
 | α=>some α
def coeOut:List Sh→List AVal→Option (List AVal)
 | [],[]=>some []
 | s::ss,α::l=>match coeA s α,coeOut ss l with
  | some β,some r=>some (β::r)
  | _,_=>none
 | _,_=>none
theorem okI {n:Int} {k:Nat} (h:0≤n∧n<(k:Int)):n.toNat<k:=by omega
section
variable {P:Program} {fn:Func} {n0:Nat} {b:Base n0} {R:Exit→Act→World→Prop} {k:List KI} {ρ:AEnv} {H:AStore}
theorem mapA_ok {M M':Fz} {φ φ':Nat→Value} {f:AVal→Option AVal}:∀{ρ ρ':AEnv} {tmps:Array Value},(∀t α,(t,α)∈ρ→∀β u,f α=some β→RelV P M φ α u→RelV P M' φ' β u)→mapA f ρ=some ρ'→EnvR P M φ ρ tmps→EnvR P M' φ' ρ' tmps
 | [],ρ',tmps,_,h,_=>by simp only [mapA,injEq] at h;subst h;exact fun s α hs=>by simp [look] at hs
 | (s,α)::ρ,ρ',tmps,hf,h,he=>by
  simp only [mapA] at h
  split at h
  ·rename_i β r h1 h2
   simp only [injEq] at h
   subst h
   have hlook:∀{ρ r:AEnv},mapA f ρ=some r→∀q γ,look r q=some γ→∃δ,look ρ q=some δ∧f δ=some γ:=by
    intro ρ
    induction ρ with
    | nil=>intro r h q γ hq;simp only [mapA,injEq] at h;subst h;simp [look] at hq
    | cons y ρ ih =>
     obtain ⟨s',α'⟩:=y
     intro r h q γ hq
     simp only [mapA] at h
     split at h
     ·rename_i β' r' k1 k2
      simp only [injEq] at h
      subst h
      simp only [look] at hq⊢
      split at hq
      ·rename_i e
       simp only [injEq] at hq
       subst hq
       rw [if_pos e]
       exact ⟨α',rfl,k1⟩
      ·rename_i e
       rw [if_neg e]
       exact ih k2 q γ hq
     ·cases h
   intro q γ hq
   obtain ⟨δ,k1,k2⟩:=hlook (ρ:=(s,α)::ρ) (r:=(s,β)::r) (by simp [mapA,h1,h2]) q γ hq
   obtain ⟨v,k3,k4⟩:=he q δ k1
   exact ⟨v,k3,hf q δ (look_mem k1) γ v k2 k4⟩
  ·cases h
theorem env_labs {t:Nat} {α:AVal} (h:(t,α)∈ρ):∀l∈α.labs,l∈envLabs ρ:=fun l hl=>List.mem_flatMap.2 ⟨_,h,hl⟩
theorem run_nilrow {ρ':AEnv} (t L:Nat) (e:TypeId) (s:Sh) (hs:s.fixed=true) (hL:freshB n0 L ρ H=true) (h1:mapE t (nilA L) ρ=some ρ') (h:Run P fn b R k ρ' ((L,.row e s [])::H)):Run P fn b R k ρ H :=
 run_st h fun tmps w ⟨M,φ,ξ,g1,g2⟩=>by
  refine ⟨M,upd φ L (.slice none 0 0),upd ξ L none,g1.grow hL rfl rfl rfl (Nat.le_refl _) (fun _ _=>rfl) ⟨hs,none,0,rfl,.inl ⟨rfl,rfl,rfl,rfl⟩⟩ (fun g hg=>by cases hg),?_⟩
  have g3:=g2.labs (fresh_env hL (f:=φ) (x:=.slice none 0 0))
  refine mapE_ok (fun α β u hf hr=>?_) h1 g3
  unfold nilA at hf
  split at hf
  ·simp only [injEq] at hf
   subst hf
   obtain ⟨_,cs,rfl,hc⟩:=hr
   simp only [RepC] at hc
   subst hc
   exact ⟨by rw [upd_same];rfl,rfl⟩
  ·cases hf
theorem run_ren {ρ':AEnv} (N L:Nat) {it:AItem} (hl:look H N=some it) (hL:freshB n0 L ρ H=true) (hp:it.labs=[]) (h1:mapA (renA N L) ρ=some ρ') {H':AStore} (h2:(L,it)::remL H N=H') (h:Run P fn b R k ρ' H'):Run P fn b R k ρ H :=
 run_st h fun tmps w ⟨M,φ,ξ,g1,g2⟩=>by
  obtain ⟨H1,H2,rfl,_,hrem⟩:=look_split hl
  rw [hrem] at h2
  subst h2
  have hh:=g1.items N it (look_mem hl)
  refine ⟨M,upd φ L (φ N),upd ξ L (ξ N),g1.repl hL rfl rfl rfl (Nat.le_refl _) (fun _ _ _=>rfl) (held_labs (fun l hl=>by rw [hp] at hl;cases hl) hh) (fun g hg=>.inr hg),?_⟩
  refine mapA_ok (fun t α hm β u hf hr=>?_) h1 g2
  have hfr:=fresh_env hL (f:=φ) (x:=φ N)
  unfold renA at hf
  split at hf
  ·rename_i K
   simp only [injEq] at hf
   subst hf
   split
   ·rename_i e
    have e:=Nat.eq_of_beq_eq_true e
    subst e
    exact ⟨by rw [upd_same];exact hr.1,hr.2⟩
   ·exact relV_labs (α:=.row K) (fun l hl=>hfr l (env_labs hm l hl)) hr
  ·simp only [injEq] at hf
   subst hf
   exact relV_labs (fun l hl=>hfr l (env_labs hm l hl)) hr
theorem run_subrow (t L n N:Nat) {e:TypeId} {s:Sh} {xs:List s.ty} {u0:Nat} (hl:look H L=some (.row e s xs)) (hN:freshB n0 N ρ H=true) (hp:s.pers=true) (hn:n≤xs.length) (ht:look ρ t=some (.sub L u0 0 n)) {H':AStore} (h2:(N,.row e s (xs.take n))::remL H L=H') (h:Run P fn b R k ((t,.row N)::ρ) H'):Run P fn b R k ρ H :=
 run_st h fun tmps w ⟨M,φ,ξ,g1,g2⟩=>by
  obtain ⟨u,hu,A,m,c,q1,q2,q3,B,rfl,q4⟩:=g2 t _ ht
  obtain ⟨H1,H2,rfl,_,hrem⟩:=look_split hl
  rw [hrem] at h2
  subst h2
  have hit:=g1.items L _ (look_mem hl)
  refine ⟨M,upd φ N (.slice B n (c-0)),upd ξ N (ξ L),g1.repl hN rfl rfl rfl (Nat.le_refl _) (fun _ _ _=>rfl) ?_ (fun g hg=>?_),?_⟩
  ·obtain ⟨hf,A',cap,k1,k2⟩:=hit
   rw [k1] at q1
   simp only [Value.slice.injEq] at q1
   obtain ⟨rfl,rfl,rfl⟩:=q1
   have hlen:(xs.take n).length=n:=by rw [List.length_take,Nat.min_eq_left hn]
   refine ⟨hf,B,cap,by rw [hlen];rfl,?_⟩
   rw [q4.2 rfl]
   rcases k2 with ⟨z1,rfl,rfl,rfl⟩|⟨g,cc,z1,rfl,z3,z4,z5,z6,z7⟩
   ·exact .inl ⟨z1,by simp,rfl,rfl⟩
   ·refine .inr ⟨g,cc,z1,rfl,z3.imp fun fr q=>⟨q.1,q.2.imp id fun q=>⟨q.1,by rw [hlen];have:=q.2;omega⟩⟩,by omega,z5,z6,?_⟩
    have hfl:∀(c:List Value) (x:s.ty),RepC P φ s M c x→c.length=s.size:=fun c y hc=>rep_len hf hc
    have:=(RepL_cut hfl (n:=n) hn z7).1
    rw [List.take_take,Nat.min_eq_left (Nat.mul_le_mul_right _ hn)] at this
    rw [hlen]
    exact rep_pers (s:=.lst s) hp this
  ·exact .inr hg
  ·have g3:=g2.labs (fresh_env hN (f:=φ) (x:=.slice B n (c-0)))
   intro q α hq
   simp only [look] at hq
   split at hq
   ·rename_i e
    have e:=Nat.eq_of_beq_eq_true e
    simp only [injEq] at hq
    subst e hq
    exact ⟨_,hu,by rw [upd_same],rfl⟩
   ·exact g3 q α hq
theorem core_frz {w:World} {M:Fz} {φ:Nat→Value} {ξ:Nat→Option Nat} (L:Nat) {e:TypeId} {s:Sh} {xs:List s.ty} (hE:b.E=[]) (hl:look H L=some (.row e s xs)) (hp:s.pers=true) (g1:Core P b M φ ξ H w) :
  ∃M',Core P b M' φ ξ (remL H L) w∧M.le M'∧RelV P M' φ (.v (.sl s) xs) (φ L):=by
  obtain ⟨H1,H2,hH,_,hrem⟩:=look_split hl
  rw [hrem]
  have hm:(L,AItem.row e s xs)∈H:=look_mem hl
  have hsub:(H1++H2).Sublist H:=by
   rw [hH]
   exact (List.Sublist.refl _).append (List.sublist_cons_self _ _)
  have hneL:∀x∈H1++H2,x.1≠L:=by
   intro x hx e
   have hn:=g1.nd
   rw [hH,List.map_append,List.map_cons,List.nodup_append] at hn
   obtain ⟨h1,h2,h3⟩:=hn
   rw [List.nodup_cons] at h2
   rcases List.mem_append.1 hx with h|h
   ·exact h3 x.1 (List.mem_map.2 ⟨_,h,rfl⟩) L (List.mem_cons_self ..) e
   ·exact h2.1 (e▸List.mem_map.2 ⟨_,h,rfl⟩)
  obtain ⟨hf,A,cap,k1,k2⟩:=g1.items L _ hm
  have hfx:(Sh.sl s).fixed=true:=by simp [Sh.fixed,hf,hp]
  rcases k2 with ⟨_,rfl,rfl,rfl⟩|⟨g,c,k3,rfl,⟨fr,k4,_⟩,k5,k6,k7,k8⟩
  ·exact ⟨M,g1.sub hsub,Fz.le_refl _,hfx,[φ L],by rw [k1];rfl,none,0,0,[],by rw [k1];rfl,rfl,⟨Nat.le_refl _,by simp [maxLen]⟩,Cl.nil _ _,rfl⟩
  ·have hft:=g1.feet L _ g hm k3
   have hge:b.w.heap.size≤g:=by
    rcases hft.1 with h|h
    ·exact h
    ·rw [hE] at h;cases h
   have hle:M.le (fun x=>if x=g then some c else M x):=fun x d hx=>by
    by_cases e:x=g
    ·subst e;rw [hft.2] at hx;cases hx
    ·simp [e,hx]
   refine ⟨fun x=>if x=g then some c else M x,?_,hle,hfx,[φ L],by rw [k1];rfl,_,_,cap,_,by rw [k1],rfl,⟨k5,k6⟩,?_,rep_mono (s:=.lst s) hle k8⟩
   ·have s':=g1.sub hsub
    refine ⟨Fz.le_trans g1.le hle,fun x hx=>?_,⟨fun x d hx=>?_,g1.over.gl.mono hle⟩,g1.below,fun K it hi=>held_kept hle (s'.items K it hi) fun _ _=>rfl,fun K it x hi hx=>⟨(s'.feet K it x hi hx).1,?_⟩,s'.sep,s'.nd,g1.keep⟩
    ·have:¬x=g:=by omega
     simp [this,g1.same x hx]
    ·by_cases e:x=g
     ·subst e
      simp at hx
      subst hx
      exact ⟨_,_,k4⟩
     ·simp [e] at hx
      exact g1.over x d hx
    ·have:¬x=g:=fun e=>by
      subst e
      exact hneL _ hi (g1.sep K L it _ x (hsub.subset hi) hm hx k3)
     simp [this,(s'.feet K it x hi hx).2]
   ·intro q hq
    refine ⟨g,0,c,rfl,by simp,?_⟩
    rw [Nat.zero_add,List.getElem?_take_of_lt (by rw [List.length_take] at hq;omega)]
    simp
theorem run_frz {ρ':AEnv} (L:Nat) {e:TypeId} {s:Sh} {xs:List s.ty} (hE:b.E=[]) (hl:look H L=some (.row e s xs)) (hp:s.pers=true) (h1:mapA (frzA L s xs) ρ=some ρ') {H':AStore} (h2:remL H L=H') (h:Run P fn b R k ρ' H'):Run P fn b R k ρ H :=
 run_st h fun tmps w ⟨M,φ,ξ,g1,g2⟩=>by
  subst h2
  obtain ⟨M',c1,hle,hv⟩:=core_frz L hE hl hp g1
  refine ⟨M',φ,ξ,c1,mapA_ok (fun t α _ β u hfz hr=>?_) h1 g2⟩
  unfold frzA at hfz
  split at hfz
  ·split at hfz
   ·rename_i e
    have e:=Nat.eq_of_beq_eq_true e
    simp only [injEq] at hfz
    subst e hfz
    rw [hr.1]
    exact hv
   ·simp only [injEq] at hfz
    subst hfz
    exact hr
  ·simp only [injEq] at hfz
   subst hfz
   exact relV_mono hle hr
theorem coeOut_ok {M:Fz} {φ:Nat→Value}:∀{ss:List Sh} {l l':List AVal} {us:List Value},coeOut ss l=some l'→RelVs P M φ l us→RelVs P M φ l' us
 | [],[],l',us,h,hr=>by simp only [coeOut,injEq] at h;subst h;exact hr
 | s::ss,α::l,l',us,h,hr=>by
  simp only [coeOut] at h
  split at h
  ·rename_i β r h1 h2
   simp only [injEq] at h
   subst h
   obtain ⟨u,q,rfl,k1,k2⟩:=hr
   exact ⟨u,q,rfl,coeA_ok h1 k1,coeOut_ok h2 k2⟩
  ·cases h
 | [],_::_,_,_,h,_=>by simp [coeOut] at h
 | _::_,[],_,_,h,_=>by simp [coeOut] at h
theorem coeOut_len:∀{ss:List Sh} {l l':List AVal},coeOut ss l=some l'→l'.length=l.length
 | [],[],l',h=>by simp only [coeOut,injEq] at h;subst h;rfl
 | s::ss,α::l,l',h=>by
  simp only [coeOut] at h
  split at h
  ·rename_i β r h1 h2
   simp only [injEq] at h
   subst h
   simp [coeOut_len h2]
  ·cases h
 | [],_::_,_,h=>by simp [coeOut] at h
 | _::_,[],_,h=>by simp [coeOut] at h
theorem one_ok {M:Fz} {φ:Nat→Value} {ss:List Sh} {l l':List AVal} {u:Value} (h:coeOut ss l=some l') (hr:RelV P M φ (one l) u):RelV P M φ (one l') u:=by
 have hl:=coeOut_len h
 match l,l',h,hl,hr with
 | [],[],_,_,hr=>exact hr
 | [α],[β],h,_,hr =>
  have:=coeOut_ok h (us:=[u]) ⟨u,[],rfl,hr,rfl⟩
  obtain ⟨v,r,e,h1,h2⟩:=this
  simp only [List.cons.injEq] at e
  rw [e.1]
  exact h1
 | α::γ::l,β::δ::l',h,_,hr =>
  obtain ⟨us,e,h1⟩:=hr
  exact ⟨us,e,coeOut_ok h h1⟩
end
def resP (P:Program) (ρ:AEnv) (H:AStore) (rs:List ResultVar) (ss:List Sh):Option (List AVal):=match resAs P ρ H rs with
 | some q=>match coeOut ss q with
  | some q'=>if (one q).labs.isEmpty then some q' else none
  | none=>none
 | none=>none
theorem ret_pure {P:Program} {fn:Func} {w:World} {M:Fz} {ho:Over M w} {k:List KI} {ρ:AEnv} {H:AStore} {c:Code} {q:List AVal} {β:AVal} (ss:List Sh) (hc:Code.kind c=.ret) (hb:one q=β) (hq:resP P ρ H fn.results.toList ss=some q):Run P fn (base0 w M ho) (bodyB P fn (base0 w M ho) (PureR P w M β)) (.code c::k) ρ H:=by
 subst hb
 unfold resP at hq
 split at hq
 ·rename_i q0 h1
  split at hq
  ·rename_i q1 h2
   split at hq
   ·rename_i h3
    simp only [injEq] at hq
    subst hq
    rw [List.isEmpty_iff] at h3
    exact run_ret hc h1 (pureR h3 fun _ _ h=>one_ok h2 h)
   ·cases hq
  ·cases hq
 ·cases hq
def loudB (orc:List (Nat×Orc)) (ops:Array Oper) (i:Nat):Bool:=match ops[i]? with
 | some o=>match o.op with
  | .box _ _=>true
  | .alloc _=>true
  | .store _ _ _=>true
  | .makeMap _ _=>true
  | .mapUpdate _ _ _ _=>true
  | .mapEntry _ _ _=>true
  | .entryStore _ _ _ _=>true
  | .buildSlice _ _ _=>true
  | .call ⟨.builtin .append,_,_⟩=>true
  | .call ⟨.builtin .clear,_,_⟩=>true
  | .call ⟨.value _,_,_⟩=>match look orc i with
   | some q=>q.m.isSome
   | none=>false
  | _=>false
 | none=>false
def cntL (orc:List (Nat×Orc)) (ops:Array Oper):Nat→Nat
 | 0=>0
 | k+1=>cntL orc ops k+(if loudB orc ops k then 1 else 0)
def maskOf (l:List Nat):List Edge→Nat
 | []=>0
 | e::r=>if Region.binds .any e then 2^e.on ||| l.getD e.on 0 ||| maskOf l r else maskOf l r
def maskAt (ops:Array Oper) (l:List Nat) (k:Nat):Nat:=match ops[k]? with
 | some o=>maskOf l o.after.toList
 | none=>0
def masks (ops:Array Oper):Nat→List Nat
 | 0=>[]
 | k+1=>masks ops k++[maskAt ops (masks ops k) k]
def bitB (ms:List Nat) (i j:Nat):Bool:=Nat.testBit (ms.getD i 0) j
theorem masks_len {ops:Array Oper}:∀{k:Nat},(masks ops k).length=k
 | 0=>rfl
 | k+1=>by simp [masks,masks_len]
theorem masks_get {ops:Array Oper} {i:Nat}:∀{k:Nat},i<k→(masks ops k).getD i 0=maskAt ops (masks ops i) i
 | k+1,h=>by
  simp only [masks]
  rcases Nat.lt_or_ge i k with h1|h1
  ·rw [← masks_get h1,List.getD_eq_getElem?_getD,List.getD_eq_getElem?_getD,List.getElem?_append_left (by rw [masks_len];exact h1)]
  ·obtain rfl:i=k:=by omega
   rw [List.getD_eq_getElem?_getD,List.getElem?_append_right (by rw [masks_len];exact Nat.le_refl _),masks_len]
   simp
theorem maskOf_bit {l:List Nat} {j:Nat}:∀{r:List Edge},(maskOf l r).testBit j=true→∃e∈r,Region.binds .any e=true∧(j=e.on∨(l.getD e.on 0).testBit j=true)
 | [],h=>by simp [maskOf] at h
 | e::r,h=>by
  simp only [maskOf] at h
  split at h
  ·rename_i hb
   simp only [Nat.testBit_or,Bool.or_eq_true,Nat.testBit_two_pow,decide_eq_true_eq] at h
   rcases h with (h|h)|h
   ·exact ⟨e,List.mem_cons_self ..,hb,.inl h.symm⟩
   ·exact ⟨e,List.mem_cons_self ..,hb,.inr h⟩
   ·obtain ⟨e',h1,h2⟩:=maskOf_bit h
    exact ⟨e',List.mem_cons_of_mem _ h1,h2⟩
  ·obtain ⟨e',h1,h2⟩:=maskOf_bit h
   exact ⟨e',List.mem_cons_of_mem _ h1,h2⟩
theorem mask_in {ops:Array Oper} {ord:List Nat} (hc:∀i∈ord,∀j,depB ops i j=true→j∈ord) {n j:Nat}:∀{i:Nat},i<n→(∀x,depB ops i x=true→x∈ord)→bitB (masks ops n) i j=true→j∈ord:=by
 intro i
 induction i using Nat.strongRecOn with
 | _ i ih =>
  intro hi hd h
  unfold bitB at h
  rw [masks_get hi] at h
  unfold maskAt at h
  split at h
  ·rename_i o ho
   obtain ⟨e,h1,h2,h3⟩:=maskOf_bit h
   have hdep:depB ops i e.on=true:=by
    unfold depB
    simp only [ho]
    exact Array.any_eq_true'.2 ⟨e,by simpa using h1,by simp [h2]⟩
   have hon:=hd _ hdep
   rcases h3 with rfl|h3
   ·exact hon
   ·rcases Nat.lt_or_ge e.on i with hlt|hge
    ·refine ih e.on hlt (by omega) (hc _ hon) ?_
     unfold bitB
     rw [masks_get (by omega),← masks_get hlt]
     exact h3
    ·rw [List.getD_eq_getElem?_getD,List.getElem?_eq_none (by rw [masks_len];exact hge)] at h3
     simp at h3
  ·simp at h
def oldEnv (ops:Array Oper) (ms:List Nat) (i:Nat) (ρ:AEnv):AEnv:=ρ.filter fun x=>(List.range ops.size).all fun j=>match dstOf ops j with
 | some d=>!Nat.beq d x.1||bitB ms j i
 | none=>true
def opEnv (ops:Array Oper) (ms:List Nat) (ρ:AEnv) (res:List AVal) (i:Nat):AEnv:=resEnv ops i res 0++oldEnv ops ms i ρ
def loudAt (P:Program) (n0:Nat) (orc:List (Nat×Orc)) (dec:List (Nat×Bool)) (L0:Nat) (ops:Array Oper) (ms:List Nat) (ρ:AEnv) (H:AStore) (res:List AVal) (i:Nat):Option (AVal×AStore×List Prop) :=
 match ops[i]? with
 | none=>none
 | some o=>match gdE ops o (opEnv ops ms ρ res i) with
  | none=>none
  | some false=>some (.undef,H,[])
  | some true=>match stepE P n0 orc i (opEnv ops ms ρ res i) H (L0+20*i) o with
   | some (β,H',C)=>some ((dcd dec i β).1,H',C++(dcd dec i β).2)
   | none=>none
def quietAt (P:Program) (orc:List (Nat×Orc)) (dec:List (Nat×Bool)) (ops:Array Oper) (ms:List Nat) (ρ:AEnv) (H:AStore) (res:List AVal) (i:Nat):PR :=
 match headOne P orc dec ops (oldEnv ops ms i ρ) [] res i with
 | some r=>some r
 | none=>headOne P orc dec ops (oldEnv ops ms i ρ) H res i
def mainE (P:Program) (n0:Nat) (orc:List (Nat×Orc)) (dec:List (Nat×Bool)) (L0:Nat) (ops:Array Oper) (ms:List Nat) (ρ:AEnv) (H:AStore):Nat→Option (List AVal×List AStore×List Prop)
 | 0=>some ([],[H],[])
 | k+1=>match mainE P n0 orc dec L0 ops ms ρ H k with
  | none=>none
  | some (res,Hs,C)=>match Hs[cntL orc ops k]? with
   | none=>none
   | some H1=>if loudB orc ops k then match loudAt P n0 orc dec L0 ops ms ρ H1 res k with
     | some (β,H2,C')=>some (res++[β],Hs++[H2],C++C')
     | none=>none
    else match quietAt P orc dec ops ms ρ H1 res k with
     | some (β,C')=>some (res++[β],Hs,C++C')
     | none=>none
def mayB (orc:List (Nat×Orc)) (ops:Array Oper) (ms:List Nat) (i k:Nat):Bool:=(List.range ops.size).all fun j=>!loudB orc ops j||((!(Nat.blt (cntL orc ops j) k)||!bitB ms j i)&&(!bitB ms i j||Nat.blt (cntL orc ops j) k))
def extraE (P:Program) (orc:List (Nat×Orc)) (dec:List (Nat×Bool)) (ops:Array Oper) (ms:List Nat) (ρ:AEnv) (Hs:List AStore) (res:List AVal):List (Nat×Nat)→Option (List Prop)
 | []=>some []
 | (i,k)::l=>match extraE P orc dec ops ms ρ Hs res l with
  | none=>none
  | some C=>if loudB orc ops i||Nat.beq k (cntL orc ops i)||!mayB orc ops ms i k then some C else match headOne P orc dec ops (oldEnv ops ms i ρ) [] res i with
   | some _=>some C
   | none=>match Hs[k]? with
    | none=>none
    | some H=>match headOne P orc dec ops (oldEnv ops ms i ρ) H res i,res[i]? with
     | some (β',C'),some β=>some ((β'=β)::(C'++C))
     | _,_=>none
def plan2 (m:Nat) (orc:List (Nat×Orc)) (L0 nt:Nat) (ops:Array Oper) (ms:List Nat) (ρ:AEnv) (res:List AVal):Bool :=
 ltB L0 (envLabs ρ)&&(List.range ops.size).all fun i =>
  (match ops[i]? with|some o=>o.after.all (fun e=>!Region.binds .any e||Nat.blt e.on i)|none=>true) &&
  (match dstOf ops i with
   | some d=>Nat.blt d nt&&(List.range i).all (fun j=>match dstOf ops j with|some d'=>!Nat.beq d' d|none=>true)
   | none=>true) &&
  (!loudB orc ops i||Nat.blt (cntL orc ops i) m||((List.range i).all (fun j=>!loudB orc ops j||bitB ms i j)&&(List.range ops.size).all (fun j=>Nat.beq j i||bitB ms j i||ltB (L0+20*i) (match res[j]? with|some α=>α.labs|none=>[]))))
def pairs (n k:Nat):List (Nat×Nat):=(List.range n).flatMap fun i=>(List.range (k+1)).map fun q=>(i,q)
def evG (P:Program) (n0 nt:Nat) (orc:List (Nat×Orc)) (dec:List (Nat×Bool)) (L0:Nat) (ls lh:List Nat) (ops:Array Oper) (ρ:AEnv) (H:AStore):Option (AEnv×AStore×List Prop) :=
 match mainE P n0 orc dec L0 ops (masks ops ops.size) ρ H ops.size with
 | none=>none
 | some (res,Hs,C1)=>if nodupB lh&&plan2 0 orc L0 nt ops (masks ops ops.size) ρ res then match extraE P orc dec ops (masks ops ops.size) ρ Hs res (pairs ops.size (cntL orc ops ops.size)) with
  | none=>none
  | some C2=>match Hs[cntL orc ops ops.size]? with
   | none=>none
   | some Hn=>match trimE ls (allEnv ops res 0++keepB ops ops.size ρ),trimH lh Hn with
    | some ρ',some H'=>some (ρ',H',C1++C2)
    | _,_=>none
  else none
section
variable {P:Program} {fn:Func} {n0:Nat} {b:Base n0} {R:Exit→Act→World→Prop} {k:List KI} {ρ:AEnv} {H:AStore} {ops:Array Oper} {orc:List (Nat×Orc)} {dec:List (Nat×Bool)}
theorem cntL_mono:∀{i j:Nat},i≤j→cntL orc ops i≤cntL orc ops j
 | i,0,h=>by
  obtain rfl:i=0:=by omega
  exact Nat.le_refl _
 | i,j+1,h=>by
  rcases Nat.eq_or_lt_of_le h with rfl|h
  ·exact Nat.le_refl _
  ·have:=cntL_mono (i:=i) (j:=j) (by omega)
   simp only [cntL]
   omega
theorem cntL_lt {i j:Nat} (h:i<j) (hl:loudB orc ops i=true):cntL orc ops i<cntL orc ops j:=by
 have:=cntL_mono (orc:=orc) (ops:=ops) (i:=i+1) (j:=j) h
 simp only [cntL,hl,if_true] at this
 omega
theorem cntL_inj {i j:Nat} (hi:loudB orc ops i=true) (hj:loudB orc ops j=true) (h:cntL orc ops i=cntL orc ops j):i=j:=by
 rcases Nat.lt_trichotomy i j with h1|h1|h1
 ·have:=cntL_lt (j:=j) h1 hi;omega
 ·exact h1
 ·have:=cntL_lt (j:=i) h1 hj;omega
theorem cntL_ex:∀{i c:Nat},c<cntL orc ops i→∃j,j<i∧loudB orc ops j=true∧cntL orc ops j=c
 | i+1,c,h=>by
  simp only [cntL] at h
  cases hl:loudB orc ops i with
  | false =>
   rw [hl] at h
   obtain ⟨j,h1,h2⟩:=cntL_ex (i:=i) (c:=c) (by simpa using h)
   exact ⟨j,by omega,h2⟩
  | true =>
   rw [hl] at h
   simp only [if_true] at h
   rcases Nat.lt_or_ge c (cntL orc ops i) with h1|h1
   ·obtain ⟨j,h2,h3⟩:=cntL_ex h1
    exact ⟨j,by omega,h3⟩
   ·exact ⟨i,by omega,hl,by omega⟩
theorem resEnv_pre {i:Nat} {l m:List AVal} (hback:∀i j,depB ops i j=true→j<i) (hi:i≤l.length):resEnv ops i (l++m) 0=resEnv ops i l 0:=by
 refine resEnv_app fun x hx=>?_
 cases hd:depB ops i x with
 | false=>rfl
 | true=>have:=hback i x hd;omega
theorem headOne_pre {ρ1:AEnv} {i:Nat} {l m:List AVal} (hback:∀i j,depB ops i j=true→j<i) (hi:i≤l.length):headOne P orc dec ops ρ1 H (l++m) i=headOne P orc dec ops ρ1 H l i:=by
 simp only [headOne,resEnv_pre hback hi]
theorem quietAt_pre {ms:List Nat} {i:Nat} {l m:List AVal} (hback:∀i j,depB ops i j=true→j<i) (hi:i≤l.length):quietAt P orc dec ops ms ρ H (l++m) i=quietAt P orc dec ops ms ρ H l i:=by
 simp only [quietAt,headOne_pre hback hi]
theorem loudAt_pre {ms:List Nat} {L0 i:Nat} {l m:List AVal} (hback:∀i j,depB ops i j=true→j<i) (hi:i≤l.length):loudAt P n0 orc dec L0 ops ms ρ H (l++m) i=loudAt P n0 orc dec L0 ops ms ρ H l i:=by
 simp only [loudAt,opEnv,resEnv_pre hback hi]
theorem main_ok {L0:Nat} {ms:List Nat} (hback:∀i j,depB ops i j=true→j<i):∀{n:Nat} {res:List AVal} {Hs:List AStore} {C:List Prop},mainE P n0 orc dec L0 ops ms ρ H n=some (res,Hs,C)→AllP C →
  res.length=n∧Hs.length=cntL orc ops n+1∧Hs[0]?=some H ∧
  (∀i,i<n→loudB orc ops i=true→∃β H1 H2 C',res[i]?=some β∧Hs[cntL orc ops i]?=some H1∧Hs[cntL orc ops i+1]?=some H2∧loudAt P n0 orc dec L0 ops ms ρ H1 res i=some (β,H2,C')∧AllP C') ∧
  (∀i,i<n→loudB orc ops i=false→∃β H1 C',res[i]?=some β∧Hs[cntL orc ops i]?=some H1∧quietAt P orc dec ops ms ρ H1 res i=some (β,C')∧AllP C')
 | 0,res,Hs,C,h,_=>by
  simp only [mainE,injEq,Prod.mk.injEq] at h
  obtain ⟨rfl,rfl,rfl⟩:=h
  exact ⟨rfl,rfl,rfl,fun i hi=>by omega,fun i hi=>by omega⟩
 | n+1,res,Hs,C,h,hC=>by
  simp only [mainE] at h
  split at h
  ·cases h
  ·rename_i res0 Hs0 C0 h0
   split at h
   ·cases h
   ·rename_i H1 hH1
    have pre:∀{β:AVal} {C':List Prop},AllP (C0++C')→∀{Hs':List AStore},(∀(q:Nat) (x:AStore),Hs0[q]?=some x→Hs'[q]?=some x) →
      res0.length=n∧Hs0.length=cntL orc ops n+1∧Hs'[0]?=some H ∧
      (∀i,i<n→loudB orc ops i=true→∃β' H1 H2 C',(res0++[β])[i]?=some β'∧Hs'[cntL orc ops i]?=some H1∧Hs'[cntL orc ops i+1]?=some H2∧loudAt P n0 orc dec L0 ops ms ρ H1 (res0++[β]) i=some (β',H2,C')∧AllP C') ∧
      (∀i,i<n→loudB orc ops i=false→∃β' H1 C',(res0++[β])[i]?=some β'∧Hs'[cntL orc ops i]?=some H1∧quietAt P orc dec ops ms ρ H1 (res0++[β]) i=some (β',C')∧AllP C'):=by
     intro β C' hC Hs' hHs
     obtain ⟨g1,g2,g3,g4,g5⟩:=main_ok hback h0 (AllP.app hC).1
     refine ⟨g1,g2,hHs _ _ g3,fun i hi hl=>?_,fun i hi hl=>?_⟩
     ·obtain ⟨β',H1,H2,C'',k1,k2,k3,k4,k5⟩:=g4 i hi hl
      exact ⟨β',H1,H2,C'',by rw [List.getElem?_append_left (by omega)];exact k1,hHs _ _ k2,hHs _ _ k3,by rw [loudAt_pre hback (by omega)];exact k4,k5⟩
     ·obtain ⟨β',H1,C'',k1,k2,k3,k4⟩:=g5 i hi hl
      exact ⟨β',H1,C'',by rw [List.getElem?_append_left (by omega)];exact k1,hHs _ _ k2,by rw [quietAt_pre hback (by omega)];exact k3,k4⟩
    split at h
    ·rename_i hl
     split at h
     ·rename_i β H2 C' h1
      simp only [injEq,Prod.mk.injEq] at h
      obtain ⟨rfl,rfl,rfl⟩:=h
      obtain ⟨g1,g2,g3,g4,g5⟩:=pre (β:=β) hC (Hs':=Hs0++[H2]) fun q x hq=>by
       rw [List.getElem?_append_left (List.getElem?_eq_some_iff.1 hq).1];exact hq
      refine ⟨by simp [g1],by simp [g2,cntL,hl],g3,fun i hi hli=>?_,fun i hi hli=>?_⟩
      ·rcases Nat.lt_or_ge i n with h2|h2
       ·exact g4 i h2 hli
       ·obtain rfl:i=n:=by omega
        refine ⟨β,H1,H2,C',by rw [← g1];simp,by rw [List.getElem?_append_left (by omega)];exact hH1,by rw [← g2];simp,by rw [loudAt_pre hback (by omega)];exact h1,(AllP.app hC).2⟩
      ·rcases Nat.lt_or_ge i n with h2|h2
       ·exact g5 i h2 hli
       ·obtain rfl:i=n:=by omega
        rw [hl] at hli
        cases hli
     ·cases h
    ·rename_i hl
     have hl:loudB orc ops n=false:=by simpa using hl
     split at h
     ·rename_i β C' h1
      simp only [injEq,Prod.mk.injEq] at h
      obtain ⟨rfl,rfl,rfl⟩:=h
      obtain ⟨g1,g2,g3,g4,g5⟩:=pre (β:=β) hC (Hs':=Hs0) fun q x hq=>hq
      refine ⟨by simp [g1],by simp [g2,cntL,hl],g3,fun i hi hli=>?_,fun i hi hli=>?_⟩
      ·rcases Nat.lt_or_ge i n with h2|h2
       ·exact g4 i h2 hli
       ·obtain rfl:i=n:=by omega
        rw [hl] at hli
        cases hli
      ·rcases Nat.lt_or_ge i n with h2|h2
       ·exact g5 i h2 hli
       ·obtain rfl:i=n:=by omega
        exact ⟨β,H1,C',by rw [← g1];simp,hH1,by rw [quietAt_pre hback (by omega)];exact h1,(AllP.app hC).2⟩
     ·cases h
theorem extra_ok {ms:List Nat} {Hs:List AStore} {res:List AVal}:∀{l:List (Nat×Nat)} {C:List Prop},extraE P orc dec ops ms ρ Hs res l=some C→AllP C→∀i k,(i,k)∈l→loudB orc ops i=false→k≠cntL orc ops i→mayB orc ops ms i k=true →
  (∃r,headOne P orc dec ops (oldEnv ops ms i ρ) [] res i=some r)∨∃H β C',Hs[k]?=some H∧res[i]?=some β∧headOne P orc dec ops (oldEnv ops ms i ρ) H res i=some (β,C')∧AllP C'
 | [],C,h,_,i,k,hm,_,_,_=>by cases hm
 | (j,q)::l,C,h,hC,i,k,hm,hl,hk,hmay=>by
  simp only [extraE] at h
  split at h
  ·cases h
  ·rename_i C0 h0
   split at h
   ·rename_i hcond
    simp only [injEq] at h
    subst h
    rcases List.mem_cons.1 hm with e|hm
    ·simp only [Prod.mk.injEq] at e
     obtain ⟨rfl,rfl⟩:=e
     simp only [Bool.or_eq_true,Bool.not_eq_true',hl,hmay] at hcond
     rcases hcond with (h1|h1)|h1
     ·cases h1
     ·exact absurd (Nat.eq_of_beq_eq_true h1) hk
     ·cases h1
    ·exact extra_ok h0 hC i k hm hl hk hmay
   ·split at h
    ·rename_i r hr
     simp only [injEq] at h
     subst h
     rcases List.mem_cons.1 hm with e|hm
     ·simp only [Prod.mk.injEq] at e
      obtain ⟨rfl,rfl⟩:=e
      exact .inl ⟨r,hr⟩
     ·exact extra_ok h0 hC i k hm hl hk hmay
    ·split at h
     ·cases h
     ·rename_i H1 hH
      split at h
      ·rename_i β' C' β h1 h2
       simp only [injEq] at h
       subst h
       obtain ⟨e1,c1⟩:=hC
       obtain ⟨c2,c3⟩:=AllP.app c1
       rcases List.mem_cons.1 hm with e|hm
       ·simp only [Prod.mk.injEq] at e
        obtain ⟨rfl,rfl⟩:=e
        subst e1
        exact .inr ⟨H1,β',C',hH,h2,h1,c2⟩
       ·exact extra_ok h0 c3 i k hm hl hk hmay
      ·cases h
theorem rslv_free {s:Sh} {x:s.ty} {y:TV} (h:rslv [] s x=some y):rslv H s x=some y:=rslv_sub (fun L it h=>by simp [look] at h) h
theorem lendA_free {α β:AVal} {z:Bool} (h:lendA [] α=some (β,z)):lendA H α=some (β,z):=by
 cases α with
 | v s x =>
  simp only [lendA] at h⊢
  split
  ·rename_i hp;rw [if_pos hp] at h;exact h
  ·rename_i hp
   rw [if_neg hp] at h
   split at h
   ·rename_i y hy
    rw [rslv_free hy]
    exact h
   ·cases h
 | _=>simp [lendA,look] at h ⊢<;>exact h
theorem lendL_free:∀{l l':List AVal} {z:Bool},lendL [] l=some (l',z)→lendL H l=some (l',z)
 | [],l',z,h=>h
 | α::l,l',z,h=>by
  simp only [lendL] at h⊢
  split at h
  ·rename_i β z1 r z2 h1 h2
   rw [lendA_free h1,lendL_free h2]
   exact h
  ·cases h
theorem argA_free {ps:PSh} {α β:AVal} {z:Bool} {C:List Prop} (h:argA P [] ps α=some (β,z,C)):argA P H ps α=some (β,z,C):=by
 cases ps<;>cases α<;>simp only [argA] at h ⊢<;>(split at h<;>first|(rename_i hl;simp only [lendA_free hl];exact h)|(rename_i hl;simp only [lendL_free hl];exact h)|cases h)
theorem argL_free:∀{ps:List PSh} {l l':List AVal} {z:Bool} {C:List Prop},argL P [] ps l=some (l',z,C)→argL P H ps l=some (l',z,C)
 | [],[],_,_,_,h=>h
 | ps::q,α::l,l',z,C,h=>by
  simp only [argL] at h⊢
  split at h
  ·rename_i β z1 C1 r z2 C2 h1 h2
   rw [argA_free h1,argL_free h2]
   exact h
  ·cases h
 | [],_::_,_,_,_,h=>by simp [argL] at h
 | _::_,[],_,_,_,h=>by simp [argL] at h
theorem callA_free {l:List AVal} {q:Orc} {α:AVal} {r:AVal×List Prop} (h:callA P [] l q α=some r):callA P H l q α=some r:=by
 unfold callA at h⊢
 split at h
 ·split at h
  ·rename_i l' z C ha
   simp only [argL_free ha]
   exact h
  ·cases h
 ·exact h
 ·cases h
theorem headOne_free {ρ1:AEnv} {M:Fz} {φ:Nat→Value} {ξ:Nat→Option Nat} {w:World} {a:Act} {res:List AVal} {i:Nat} {β:AVal} {C:List Prop} (hc:Core P b M φ ξ H w) (he:EnvR P M φ (resEnv ops i res 0++ρ1) a.tmps) (h:headOne P orc dec ops ρ1 [] res i=some (β,C)) (hC:AllP C) :
  ∃o,ops[i]?=some o∧((Region.wanted o (yielded ops a.tmps)=false∧β=.undef)∨(Region.wanted o (yielded ops a.tmps)=true∧Yld P o a w fun v w'=>∃M',Core P b M' φ ξ H w'∧M.le M'∧RelV P M' φ β v)):=by
 unfold headOne at h
 split at h
 ·cases h
 ·rename_i o ho
  refine ⟨o,ho,?_⟩
  split at h
  ·cases h
  ·rename_i hg
   simp only [injEq,Prod.mk.injEq] at h
   exact .inl ⟨gdE_ok he hg,h.1.symm⟩
  ·rename_i hg
   right
   refine ⟨gdE_ok he hg,?_⟩
   obtain ⟨dst,op,ty,pos,after,guard⟩:=o
   have pure:(match pv P (resEnv ops i res 0++ρ1) [] ty op with|some (β,C)=>some ((dcd dec i β).1,C++(dcd dec i β).2)|none=>none)=some (β,C)→Yld P ⟨dst,op,ty,pos,after,guard⟩ a w fun v w'=>∃M',Core P b M' φ ξ H w'∧M.le M'∧RelV P M' φ β v:=by
    intro h
    split at h
    ·rename_i γ C' hp
     simp only [injEq,Prod.mk.injEq] at h
     obtain ⟨rfl,rfl⟩:=h
     obtain ⟨c1,c2⟩:=AllP.app hC
     obtain ⟨v,h1,h2⟩:=pv_ok (o:=⟨dst,op,ty,pos,after,guard⟩) (hc.sub (List.nil_sublist _)) he hp c1
     exact .inl ⟨v,w,h1,M,hc,Fz.le_refl _,dcd_ok h2 c2⟩
    ·cases h
   cases op with
   | call c =>
    obtain ⟨callee,xs,ts⟩:=c
    cases callee with
    | value fx =>
     simp only at h
     split at h
     ·rename_i q hq
      split at h
      ·rename_i α l hα hl
       split at h
       ·rename_i hn
        split at h
        ·rename_i γ C' hca
         simp only [injEq,Prod.mk.injEq] at h
         obtain ⟨rfl,rfl⟩:=h
         obtain ⟨c1,c2⟩:=AllP.app hC
         have:=does_callM (ts:=ts) (ty:=ty) (dst:=dst) (pos:=pos) (after:=after) (guard:=guard) hα hl (Nat.eq_of_beq_eq_true hn) (callA_free hca) c1 M φ ξ w a hc he
         rcases this with ⟨v,w',h1,M',h2,h3,h4⟩|⟨w',h1,M',h2,h3,h4⟩|⟨f,args,h1,h2⟩
         ·exact .inl ⟨v,w',h1,M',h2,h3,dcd_ok h4 c2⟩
         ·exact .inr (.inl ⟨w',h1,M',h2,h3,dcd_ok h4 c2⟩)
         ·refine .inr (.inr ⟨f,args,h1,h2.mono ?_⟩)
          rintro e w' ⟨v,rfl,M',h2,h3,h4⟩
          exact ⟨v,rfl,M',h2,h3,dcd_ok h4 c2⟩
        ·cases h
       ·cases h
      ·cases h
     ·cases h
    | _=>exact pure h
   | _=>exact pure h
structure Plan2 (m:Nat) (orc:List (Nat×Orc)) (L0 nt:Nat) (ops:Array Oper) (ms:List Nat) (ρ:AEnv) (res:List AVal):Prop where
 old:∀l∈envLabs ρ,l<L0
 back:∀i j,depB ops i j=true→j<i
 dlt:∀i d,dstOf ops i=some d→d<nt
 dd:∀i j d,j<i→dstOf ops i=some d→dstOf ops j≠some d
 chain:∀i j,i<ops.size→j<i→m≤cntL orc ops i→loudB orc ops i=true→loudB orc ops j=true→bitB ms i j=true
 labs:∀i j α,i<ops.size→j<ops.size→m≤cntL orc ops i→loudB orc ops i=true→res[j]?=some α→j=i∨bitB ms j i=true∨∀l∈α.labs,l<L0+20*i
theorem back_ok (h:(List.range ops.size).all (fun i=>match ops[i]? with|some o=>o.after.all (fun e=>!Region.binds .any e||Nat.blt e.on i)|none=>true)=true):∀i j,depB ops i j=true→j<i:=by
 simp only [List.all_eq_true,List.mem_range] at h
 intro i j hd
 obtain ⟨o,ho,e,he,hb,rfl⟩:=depB_spec hd
 have:=h i (Array.getElem?_eq_some_iff.1 ho).1
 rw [ho] at this
 have:=Array.all_eq_true_iff_forall_mem.1 this e he
 simp [hb] at this
 simpa [Nat.blt_eq] using this
theorem plan2_ok {m L0 nt:Nat} {ms:List Nat} {res:List AVal} (h:plan2 m orc L0 nt ops ms ρ res=true):Plan2 m orc L0 nt ops ms ρ res:=by
 simp only [plan2,Bool.and_eq_true] at h
 obtain ⟨h0,h⟩:=h
 simp only [List.all_eq_true,List.mem_range,Bool.and_eq_true] at h
 have lt:∀{i d},dstOf ops i=some d→i<ops.size:=fun {i d} hd=>by
  unfold dstOf at hd
  split at hd
  ·rename_i o ho;exact (Array.getElem?_eq_some_iff.1 ho).1
  ·cases hd
 refine ⟨ltB_mem h0,back_ok ?_,fun i d hd=>?_,fun i j d hj hd hd'=>?_,fun i j hi hj hm hl hl'=>?_,fun i j α hi hj hm hl hα=>?_⟩
 ·simp only [List.all_eq_true,List.mem_range]
  exact fun i hi=>(h i hi).1.1
 ·have:=(h i (lt hd)).1.2
  rw [hd] at this
  simp only [Bool.and_eq_true] at this
  simpa [Nat.blt_eq] using this.1
 ·have:=(h i (lt hd)).1.2
  rw [hd] at this
  simp only [Bool.and_eq_true,List.all_eq_true,List.mem_range] at this
  have:=this.2 j hj
  rw [hd'] at this
  simp at this
 ·have:=(h i hi).2
  have hb:Nat.blt (cntL orc ops i) m=false:=by rw [Bool.eq_false_iff];intro h;rw [Nat.blt_eq] at h;omega
  simp only [hl,hb,Bool.not_true,Bool.false_or,Bool.and_eq_true,List.all_eq_true,List.mem_range] at this
  have:=this.1 j hj
  simpa [hl'] using this
 ·have:=(h i hi).2
  have hb:Nat.blt (cntL orc ops i) m=false:=by rw [Bool.eq_false_iff];intro h;rw [Nat.blt_eq] at h;omega
  simp only [hl,hb,Bool.not_true,Bool.false_or,Bool.and_eq_true,List.all_eq_true,List.mem_range] at this
  have:=this.2 j hj
  rw [hα] at this
  simp only [Bool.or_eq_true] at this
  rcases this with (h1|h1)|h1
  ·exact .inl (Nat.eq_of_beq_eq_true h1)
  ·exact .inr (.inl h1)
  ·exact .inr (.inr (ltB_mem h1))
structure Inv2 (P:Program) (fn:Func) {n0:Nat} (b:Base n0) (orc:List (Nat×Orc)) (ops:Array Oper) (ρ:AEnv) (Hs:List AStore) (res:List AVal) (listed:Array Bool) (ord:List Nat) (kk:Nat) (a:Act) (w:World):Prop where
 sz:listed.size=ops.size
 nd:ord.Nodup
 mem:∀i,i∈ord↔(i<ops.size∧listed.getD i false=true)
 closed:∀i∈ord,∀j,depB ops i j=true→j∈ord
 ld:∀j,j<ops.size→loudB orc ops j=true→(j∈ord↔cntL orc ops j<kk)
 tm:a.tmps.size=fn.ntmps
 df:a.defers=b.ds
 st:∃M φ ξ Hk,Hs[kk]?=some Hk∧Core P b M φ ξ Hk w∧(∀t α,look ρ t=some α→(∀j∈ord,dstOf ops j≠some t)→∃v,a.tmps[t]?=some v∧RelV P M φ α v)∧∀i∈ord,∀d α,dstOf ops i=some d→res[i]?=some α→∃v,a.tmps[d]?=some v∧RelV P M φ α v
theorem look_old {ms:List Nat} {i t:Nat} {α:AVal}:∀{ρ:AEnv},look (oldEnv ops ms i ρ) t=some α→look ρ t=some α∧∀j,j<ops.size→dstOf ops j=some t→bitB ms j i=true
 | [],h=>by simp [oldEnv,look] at h
 | (s,β)::ρ,h=>by
  have hp:=(List.mem_filter.1 (look_mem h)).2
  simp only [List.all_eq_true,List.mem_range] at hp
  refine ⟨?_,fun j hj hd=>by have:=hp j hj;rw [hd] at this;simpa using this⟩
  unfold oldEnv at h
  simp only [List.filter_cons] at h
  split at h
  ·simp only [look] at h⊢
   split at h
   ·rename_i e;rw [if_pos e];exact h
   ·rename_i e;rw [if_neg e];exact (look_old h).1
  ·rename_i hk
   simp only [look]
   split
   ·rename_i e
    have e:=Nat.eq_of_beq_eq_true e
    subst e
    exfalso
    exact hk (by simpa using (List.mem_filter.1 (look_mem h)).2)
   ·exact (look_old h).1
theorem all_any {m L0 nt:Nat} {res:List AVal} {Hs:List AStore} (hnt:nt=fn.ntmps) (hlen:res.length=ops.size) (ok:Plan2 m orc L0 nt ops (masks ops ops.size) ρ res)
  (hl:∀i,i<ops.size→loudB orc ops i=true→∃β H1 H2 C',res[i]?=some β∧Hs[cntL orc ops i]?=some H1∧Hs[cntL orc ops i+1]?=some H2∧loudAt P n0 orc dec L0 ops (masks ops ops.size) ρ H1 res i=some (β,H2,C')∧AllP C')
  (hq:∀i,i<ops.size→loudB orc ops i=false→∀k Hk,k≤cntL orc ops ops.size→Hs[k]?=some Hk→mayB orc ops (masks ops ops.size) i k=true→∃β C',res[i]?=some β∧AllP C'∧(headOne P orc dec ops (oldEnv ops (masks ops ops.size) i ρ) [] res i=some (β,C')∨headOne P orc dec ops (oldEnv ops (masks ops ops.size) i ρ) Hk res i=some (β,C')))
  {Hn:AStore} (hHn:Hs[cntL orc ops ops.size]?=some Hn) (fin:∀a w,St P b (allEnv ops res 0++keepB ops ops.size ρ) Hn a.tmps w→a.tmps.size=fn.ntmps→a.defers=b.ds→kwp P R k .normal a w) :
  ∀(fuel:Nat) (listed:Array Bool) (ord:List Nat) (kk:Nat) (a:Act) (w:World),ord.length+fuel=ops.size→m≤kk→kk≤cntL orc ops ops.size→Inv2 P fn b orc ops ρ Hs res listed ord kk a w→wpAny P .any ops (kwp P R k) fuel listed a w:=by
 intro fuel
 induction fuel with
 | zero =>
  intro listed ord kk a w hln hmk hkk inv
  have hall:∀i,i<ops.size→i∈ord:=by
   intro i hi
   rcases Decidable.em (i∈ord) with h|h
   ·exact h
   ·exfalso
    have:=nodup_lt (l:=i::ord) (m:=ops.size) (List.nodup_cons.2 ⟨h,inv.nd⟩) (fun j hj=>by
     rcases List.mem_cons.1 hj with rfl|hj
     ·exact hi
     ·exact ((inv.mem j).1 hj).1)
    simp at this
    omega
  refine ⟨?_,?_⟩
  ·rw [List.eq_nil_iff_forall_not_mem]
   intro i hi
   obtain ⟨h0,o,ho,_⟩:=mem_ready.1 hi
   have hi':=(Array.getElem?_eq_some_iff.1 ho).1
   have h1:=((inv.mem i).1 (hall i hi')).2
   have hsz:i<listed.size:=by rw [inv.sz];exact hi'
   simp [Array.getD,hsz] at h0 h1
   rw [h0] at h1
   cases h1
  ·have hk:kk=cntL orc ops ops.size:=by
    rcases Nat.lt_or_ge kk (cntL orc ops ops.size) with h|h
    ·obtain ⟨j,h1,h2,h3⟩:=cntL_ex h
     have:=(inv.ld j h1 h2).1 (hall j h1)
     omega
    ·omega
   obtain ⟨M,φ,ξ,Hk,e,g1,g2,g3⟩:=inv.st
   rw [hk,hHn] at e
   obtain rfl:=inj e
   refine fin a w ⟨M,φ,ξ,g1,fun t α ht=>?_⟩ inv.tm inv.df
   rw [look_app] at ht
   cases hx:look (allEnv ops res 0) t with
   | some γ =>
    rw [hx] at ht
    simp only [injEq] at ht
    subst ht
    obtain ⟨q,h4,h5⟩:=look_allEnv hx
    rw [Nat.zero_add] at h5
    have hqm:q<ops.size:=by rw [← hlen];exact (List.getElem?_eq_some_iff.1 h4).1
    exact g3 q (hall q hqm) t γ h5 h4
   | none =>
    rw [hx] at ht
    refine g2 t α (look_keep ht) fun j hj hd=>?_
    have:=(List.mem_filter.1 (look_mem ht)).2
    simp only [List.all_eq_true,List.mem_range] at this
    have:=this j ((inv.mem j).1 hj).1
    rw [hd] at this
    simp at this
 | succ fuel ih =>
  intro listed ord kk a w hln hmk hkk inv
  have some':∃i,i∈Region.ready .any ops listed:=by
   have:∃i,i<ops.size∧i ∉ ord:=by
    rcases Decidable.em (∃i,i<ops.size∧i ∉ ord) with h|h
    ·exact h
    ·exfalso
     have:=nodup_ge (l:=ord) (m:=ops.size) fun j hj=>Decidable.byContradiction fun hn=>h ⟨j,hj,hn⟩
     omega
   obtain ⟨i,hi,hn⟩:=this
   induction i using Nat.strongRecOn with
   | _ i ih2 =>
    by_cases hd:∃j,depB ops i j=true∧j ∉ ord
    ·obtain ⟨j,hj,hjn⟩:=hd
     have:=ok.back i j hj
     exact ih2 j this (by omega) hjn
    ·refine ⟨i,mem_ready.2 ⟨?_,ops[i],Array.getElem?_eq_getElem hi,fun e he hb=>?_⟩⟩
     ·have hsz:i<listed.size:=by rw [inv.sz];exact hi
      cases hv:listed.getD i true with
      | false=>rfl
      | true =>
       exfalso
       refine hn ((inv.mem i).2 ⟨hi,?_⟩)
       simp [Array.getD,hsz] at hv⊢
       exact hv
     ·have hdep:depB ops i e.on=true:=by
       unfold depB
       simp only [Array.getElem?_eq_getElem hi]
       exact Array.any_eq_true'.2 ⟨e,he,by simp [hb]⟩
      have:e.on∈ord:=Decidable.byContradiction fun hn=>hd ⟨e.on,hdep,hn⟩
      exact ((inv.mem _).1 this).2
  refine ⟨fun h0=>?_,fun i hi=>?_⟩
  ·obtain ⟨i,hi⟩:=some'
   rw [h0] at hi
   cases hi
  ·obtain ⟨h0,o,ho,hrd⟩:=mem_ready.1 hi
   have hin:=(Array.getElem?_eq_some_iff.1 ho).1
   have hdep:∀j,depB ops i j=true→j∈ord:=by
    intro j hj
    obtain ⟨o',ho',e,he,hb,rfl⟩:=depB_spec hj
    rw [ho] at ho'
    obtain rfl:=inj ho'
    exact (inv.mem _).2 ⟨by have:=ok.back i e.on hj;omega,hrd e he hb⟩
   have hni:i ∉ ord:=fun h=>by
    have h1:=((inv.mem i).1 h).2
    have hsz:i<listed.size:=by rw [inv.sz];exact hin
    simp [Array.getD,hsz] at h0 h1
    rw [h0] at h1
    cases h1
   have clos:∀j,bitB (masks ops ops.size) i j=true→j∈ord:=fun j hj=>mask_in inv.closed hin hdep hj
   have closO:∀j∈ord,bitB (masks ops ops.size) j i=true→False:=fun j hj hb=>hni (mask_in inv.closed ((inv.mem j).1 hj).1 (inv.closed j hj) hb)
   obtain ⟨M,φ,ξ,Hk,e,g1,g2,g3⟩:=inv.st
   have henv:EnvR P M φ (resEnv ops i res 0++oldEnv ops (masks ops ops.size) i ρ) a.tmps:=by
    intro t α ht
    rw [look_app] at ht
    cases hx:look (resEnv ops i res 0) t with
    | some γ =>
     rw [hx] at ht
     simp only [injEq] at ht
     subst ht
     obtain ⟨q,h4,h5,h6⟩:=look_resEnv hx
     rw [Nat.zero_add] at h5 h6
     exact g3 q (hdep q h6) t γ h5 h4
    | none =>
     rw [hx] at ht
     obtain ⟨k1,k2⟩:=look_old ht
     exact g2 t α k1 fun j hj hd=>closO j hj (k2 j ((inv.mem j).1 hj).1 hd)
   have hdst:dstOf ops i=o.dst:=by simp [dstOf,ho]
   -- the state behind it
   have step:∀(β:AVal) (v:Value) (M':Fz) (φ':Nat→Value) (ξ':Nat→Option Nat) (w':World) (k2:Nat) (H2:AStore),res[i]?=some β→Hs[k2]?=some H2→(∀j,j<ops.size→loudB orc ops j=true→(j∈i::ord↔cntL orc ops j<k2))→Core P b M' φ' ξ' H2 w'→M.le M'→(∀t α,look ρ t=some α→∀l∈α.labs,φ' l=φ l)→(∀j∈ord,∀α,res[j]?=some α→∀l∈α.labs,φ' l=φ l)→RelV P M' φ' β v →
     Inv2 P fn b orc ops ρ Hs res (listed.setIfInBounds i true) (i::ord) k2 (a.put o.dst v) w':=by
    intro β v M' φ' ξ' w' k2 H2 hβ hH2 hld c1 c2 c4 c5 c3
    refine ⟨by simp [inv.sz],List.nodup_cons.2 ⟨hni,inv.nd⟩,fun j=>?_,fun j hj q hq=>?_,hld,by rw [put_size];exact inv.tm,by rw [put_defers];exact inv.df,M',φ',ξ',H2,hH2,c1,fun t α ht hne=>?_,fun j hj d α hd hα=>?_⟩
    ·rw [List.mem_cons,inv.mem j]
     have hsz:i<listed.size:=by rw [inv.sz];exact hin
     by_cases e:j=i
     ·subst e
      simp [Array.getD,hsz,hin]
     ·have e':¬i=j:=fun h=>e h.symm
      have hs:(listed.setIfInBounds i true).getD j false=listed.getD j false:=by
       rw [Array.getD_eq_getD_getElem?,Array.getD_eq_getD_getElem?,Array.getElem?_setIfInBounds_ne e']
      rw [hs]
      simp [e]
    ·rcases List.mem_cons.1 hj with rfl|hj
     ·exact List.mem_cons_of_mem _ (hdep q hq)
     ·exact List.mem_cons_of_mem _ (inv.closed j hj q hq)
    ·obtain ⟨u,h1,h2⟩:=g2 t α ht fun j hj=>hne j (List.mem_cons_of_mem _ hj)
     refine ⟨u,?_,relV_mono c2 (relV_labs (c4 t α ht) h2)⟩
     rw [put_get (hdst▸hne i (List.mem_cons_self ..))]
     exact h1
    ·rcases List.mem_cons.1 hj with rfl|hj
     ·rw [hβ] at hα
      obtain rfl:=inj hα
      refine ⟨v,?_,c3⟩
      rw [← hdst,hd]
      have:=ok.dlt j d hd
      simp [Act.put,inv.tm,← hnt,this]
     ·obtain ⟨u,h1,h2⟩:=g3 j hj d α hd hα
      refine ⟨u,?_,relV_mono c2 (relV_labs (c5 j hj α hα) h2)⟩
      have hne:o.dst≠some d:=by
       rw [← hdst]
       intro e
       rcases Nat.lt_trichotomy i j with h|h|h
       ·exact ok.dd j i d h hd e
       ·subst h;exact hni hj
       ·exact ok.dd i j d h e hd
      rw [put_get hne]
      exact h1
   have hln':(i::ord).length+fuel=ops.size:=by simp;omega
   unfold wpOp
   simp only [ho]
   cases hloud:loudB orc ops i with
   | false =>
    have hmay:mayB orc ops (masks ops ops.size) i kk=true:=by
     simp only [mayB,List.all_eq_true,List.mem_range]
     intro j hj
     cases hlj:loudB orc ops j with
     | false=>rfl
     | true =>
      have hx:=inv.ld j hj hlj
      simp only [Bool.not_true,Bool.false_or,Bool.and_eq_true,Bool.or_eq_true,Bool.not_eq_true']
      refine ⟨?_,?_⟩
      ·rcases Decidable.em (cntL orc ops j<kk) with h|h
       ·right
        cases hb:bitB (masks ops ops.size) j i with
        | false=>rfl
        | true=>exact (closO j (hx.2 h) hb).elim
       ·left
        rw [Bool.eq_false_iff]
        intro h'
        rw [Nat.blt_eq] at h'
        exact h h'
      ·cases hb:bitB (masks ops ops.size) i j with
       | false=>exact .inl rfl
       | true=>exact .inr (by rw [Nat.blt_eq];exact hx.1 (clos j hb))
    obtain ⟨β,C',r1,r3,r2⟩:=hq i hin hloud kk Hk hkk e hmay
    have hld:∀j,j<ops.size→loudB orc ops j=true→(j∈i::ord↔cntL orc ops j<kk):=fun j hj hlj=>by
     rw [List.mem_cons]
     refine ⟨fun h=>?_,fun h=>.inr ((inv.ld j hj hlj).2 h)⟩
     rcases h with rfl|h
     ·rw [hloud] at hlj;cases hlj
     ·exact (inv.ld j hj hlj).1 h
    have hone:∃o,ops[i]?=some o∧((Region.wanted o (yielded ops a.tmps)=false∧β=.undef)∨(Region.wanted o (yielded ops a.tmps)=true∧Yld P o a w fun v w'=>∃M',Core P b M' φ ξ Hk w'∧M.le M'∧RelV P M' φ β v)):=by
     rcases r2 with r2|r2
     ·exact headOne_free g1 henv r2 r3
     ·exact headOne_ok g1 henv r2 r3
    obtain ⟨o',ho',hcase⟩:=hone
    rw [ho] at ho'
    obtain rfl:=inj ho'
    have st:∀(v:Value) (M':Fz) (w':World),Core P b M' φ ξ Hk w'→M.le M'→RelV P M' φ β v→wpAny P .any ops (kwp P R k) fuel (listed.setIfInBounds i true) (a.put o.dst v) w':=fun v M' w' c1 c2 c3 =>
     ih _ (i::ord) kk _ w' hln' hmk hkk (step β v M' φ ξ w' kk Hk r1 e hld c1 c2 (fun _ _ _ _ _=>rfl) (fun _ _ _ _ _ _=>rfl) c3)
    rcases hcase with ⟨hw,rfl⟩|⟨hw,hy⟩
    ·simp only [hw,Bool.false_eq_true,if_false]
     exact st undef M w g1 (Fz.le_refl _) rfl
    ·simp only [hw,if_true]
     left
     unfold Oper.wp
     rcases hy with ⟨v,w',h1,M',h2,h3,h4⟩|⟨w',h1,M',h2,h3,h4⟩|⟨f,args,h1,h2⟩
     ·rw [h1]
      simp only [Oper.upon_value]
      exact st v M' w' h2 h3 h4
     ·rw [h1]
      simp only [Oper.upon_skip]
      exact st undef M' w' h2 h3 h4
     ·rw [h1]
      simp only [Oper.upon_enter]
      refine h2.mono ?_
      rintro e w' ⟨v,rfl,M',h2,h3,h4⟩
      exact st v M' w' h2 h3 h4
   | true =>
    obtain ⟨β,H1,H2,C',r1,r2,r3,r4,r5⟩:=hl i hin hloud
    have hck:cntL orc ops i=kk:=by
     rcases Nat.lt_trichotomy (cntL orc ops i) kk with h|h|h
     ·exact absurd ((inv.ld i hin hloud).2 h) hni
     ·exact h
     ·obtain ⟨j,h1,h2,h3⟩:=cntL_ex h
      have:=(inv.ld j (by omega) h2).1 (clos j (ok.chain i j hin h1 (by omega) hloud h2))
      omega
    have hkk':kk+1≤cntL orc ops ops.size:=by
     have:=cntL_lt (orc:=orc) (ops:=ops) hin hloud
     omega
    rw [hck] at r2 r3
    rw [e] at r2
    obtain rfl:=inj r2
    have hld:∀j,j<ops.size→loudB orc ops j=true→(j∈i::ord↔cntL orc ops j<kk+1):=fun j hj hlj=>by
     rw [List.mem_cons]
     refine ⟨fun h=>?_,fun h=>?_⟩
     ·rcases h with rfl|h
      ·omega
      ·have:=(inv.ld j hj hlj).1 h;omega
     ·rcases Nat.lt_or_ge (cntL orc ops j) kk with h1|h1
      ·exact .inr ((inv.ld j hj hlj).2 h1)
      ·exact .inl (cntL_inj hlj hloud (by omega))
    have oldL:∀t α,look ρ t=some α→∀l∈α.labs,l<L0+20*i:=fun t α ht l hlb=>by
     have:=ok.old l (List.mem_flatMap.2 ⟨_,look_mem ht,hlb⟩)
     omega
    have resL:∀j∈ord,∀α,res[j]?=some α→∀l∈α.labs,l<L0+20*i:=fun j hj α hα=>by
     rcases ok.labs i j α hin ((inv.mem j).1 hj).1 (by omega) hloud hα with h|h|h
     ·subst h;exact absurd hj hni
     ·exact absurd (mask_in inv.closed ((inv.mem j).1 hj).1 (inv.closed j hj) h) hni
     ·exact h
    unfold loudAt at r4
    simp only [ho] at r4
    cases hg:gdE ops o (opEnv ops (masks ops ops.size) ρ res i) with
    | none=>rw [hg] at r4;cases r4
    | some z =>
     rw [hg] at r4
     have hw:=gdE_ok (P:=P) (M:=M) (φ:=φ) henv hg
     cases z with
     | false =>
      simp only [injEq,Prod.mk.injEq] at r4
      obtain ⟨rfl,rfl,rfl⟩:=r4
      simp only [hw,Bool.false_eq_true,if_false]
      exact ih _ (i::ord) (kk+1) _ w hln' (by omega) hkk' (step _ undef M φ ξ w (kk+1) _ r1 r3 hld g1 (Fz.le_refl _) (fun _ _ _ _ _=>rfl) (fun _ _ _ _ _ _=>rfl) rfl)
     | true =>
      simp only at r4
      split at r4
      ·rename_i β1 H3 C1 hs
       simp only [injEq,Prod.mk.injEq] at r4
       obtain ⟨rfl,rfl,rfl⟩:=r4
       obtain ⟨c1,c2⟩:=AllP.app r5
       have st:∀(v:Value) (M':Fz) (φ':Nat→Value) (ξ':Nat→Option Nat) (w':World),Core P b M' φ' ξ' H3 w'→Later (L0+20*i) M M' φ φ'→RelV P M' φ' β1 v→wpAny P .any ops (kwp P R k) fuel (listed.setIfInBounds i true) (a.put o.dst v) w':=fun v M' φ' ξ' w' k1 k2 k3 =>
        ih _ (i::ord) (kk+1) _ w' hln' (by omega) hkk' (step _ v M' φ' ξ' w' (kk+1) H3 r1 r3 hld k1 k2.1 (fun t α ht l hlb=>k2.2 l (oldL t α ht l hlb)) (fun j hj α hα l hlb=>k2.2 l (resL j hj α hα l hlb)) (dcd_ok k3 c2))
       simp only [hw,if_true]
       left
       unfold Oper.wp
       rcases stepE_ok (b:=b) hs c1 M φ ξ w a g1 henv with ⟨v,w',k1,M',φ',ξ',k2,_,k3,k4⟩|⟨w',k1,M',φ',ξ',k2,_,k3,k4⟩|⟨f,args,k1,k2⟩
       ·rw [k1]
        simp only [Oper.upon_value]
        exact st v M' φ' ξ' w' k2 k3 k4
       ·rw [k1]
        simp only [Oper.upon_skip]
        exact st undef M' φ' ξ' w' k2 k3 k4
       ·rw [k1]
        simp only [Oper.upon_enter]
        refine k2.mono ?_
        rintro e w' ⟨v,rfl,M',φ',ξ',k2,_,k3,k4⟩
        exact st v M' φ' ξ' w' k2 k3 k4
      ·cases r4
theorem regG {c:Code} {ρ':AEnv} {H':AStore} (orc:List (Nat×Orc)) (dec:List (Nat×Bool)) (L0:Nat) (ls lh:List Nat) (C:List Prop) (hm:P.follows .mixedOrders=true) (hc:Code.kind c=.region ops true) (h:evG P n0 fn.ntmps orc dec L0 ls lh ops ρ H=some (ρ',H',C)) (hC:AllP C) (hr:Run P fn b R k ρ' H'):Run P fn b R (.code c::k) ρ H:=by
 cases c<;>simp [Code.kind] at hc
 rename_i ops' _
 obtain ⟨e1,e2⟩:=hc
 subst e2
 have e1:=e1.symm
 subst e1
 unfold evG at h
 split at h
 ·cases h
 ·rename_i res Hs C1 h1
  split at h
  ·rename_i hn
   simp only [Bool.and_eq_true] at hn
   split at h
   ·cases h
   ·rename_i C2 h2
    split at h
    ·cases h
    ·rename_i Hn hHn
     split at h
     ·rename_i ρ2 H2 h3 h4
      simp only [injEq,Prod.mk.injEq] at h
      obtain ⟨rfl,rfl,rfl⟩:=h
      obtain ⟨c1,c2⟩:=AllP.app hC
      have ok:=plan2_ok hn.2
      obtain ⟨m1,m2,m3,m4,m5⟩:=main_ok ok.back h1 c1
      have quiet:∀i,i<ops.size→loudB orc ops i=false→∀k Hk,k≤cntL orc ops ops.size→Hs[k]?=some Hk→mayB orc ops (masks ops ops.size) i k=true→∃β C',res[i]?=some β∧AllP C'∧(headOne P orc dec ops (oldEnv ops (masks ops ops.size) i ρ) [] res i=some (β,C')∨headOne P orc dec ops (oldEnv ops (masks ops ops.size) i ρ) Hk res i=some (β,C')):=by
       intro i hi hl k Hk hk hHk hmay
       obtain ⟨β,H1,C',q1,q2,q3,q4⟩:=m5 i hi hl
       unfold quietAt at q3
       split at q3
       ·rename_i r hr
        simp only [injEq] at q3
        subst q3
        exact ⟨β,C',q1,q4,.inl hr⟩
       ·rename_i hr
        by_cases e:k=cntL orc ops i
        ·subst e
         rw [q2] at hHk
         obtain rfl:=inj hHk
         exact ⟨β,C',q1,q4,.inr q3⟩
        ·rcases extra_ok h2 c2 i k (List.mem_flatMap.2 ⟨i,List.mem_range.2 hi,List.mem_map.2 ⟨k,List.mem_range.2 (by omega),rfl⟩⟩) hl e hmay with ⟨r,hr'⟩|⟨H3,β',C3,k1,k2,k3,k4⟩
         ·rw [hr] at hr';cases hr'
         ·rw [hHk] at k1
          obtain rfl:=inj k1
          exact ⟨β',C3,k2,k4,.inr k3⟩
      intro a w g1 g2 g3
      refine wp_region_any hm ?_
      refine all_any rfl m1 ok m4 quiet hHn (fun a w k1 k2 k3=>hr a w (k1.trim h3 h4 hn.1) k2 k3) _ _ [] 0 a _ (by simp) (Nat.le_refl _) (Nat.zero_le _) ?_
      obtain ⟨M,φ,ξ,q1,q2⟩:=g1
      refine ⟨by simp,List.nodup_nil,fun i=>?_,fun i hi=>(by cases hi),fun j _ _=>⟨fun h=>(by cases h),fun h=>(by omega)⟩,g2,g3,M,φ,ξ,_,m3,q1.draws 1,fun t α ht _=>q2 t α ht,fun i hi=>(by cases hi)⟩
      simp [Array.getD]
     ·cases h
  ·cases h
end
def apOk (n bytes:Nat):Prop:=n*bytes≤140737488355328∧n≤maxLen
instance {n bytes:Nat}:Decidable (apOk n bytes):=by unfold apOk;infer_instance
theorem c0:AllP []:=trivial
theorem cc {p:Prop} {l:List Prop} (h:p) (t:AllP l):AllP (p::l):=⟨h,t⟩
abbrev vi (x:Int):AVal:=.v (.int .i64) x
abbrev vu (x:Int):AVal:=.v (.int .u64) x
abbrev vb (x:Bool):AVal:=.v .bool x
abbrev vs (x:Str):AVal:=.v .str x
theorem oo {n:Int} {k:Nat} {q:Prop} (h:0≤n∧n<(k:Int)) (t:q):n.toNat<k∧q:=⟨okI h,t⟩
section
variable {P:Program} {fn:Func} {n0:Nat} {b:Base n0} {R:Exit→Act→World→Prop} {k:List KI} {ρ:AEnv} {H:AStore} {ops:Array Oper}
theorem rg {c:Code} {C:List Prop} (ρ':AEnv) (H':AStore) (orc:List (Nat×Orc)) (dec:List (Nat×Bool)) (L0:Nat) (hc:Code.kind c=.region ops false) (h:evReg P n0 fn.ntmps orc dec L0 (ρ'.map Prod.fst) (H'.map Prod.fst) ops ρ H=some (ρ',H',C)) (hC:AllP C) (hr:Run P fn b R k ρ' H'):Run P fn b R (.code c::k) ρ H :=
 reg orc dec L0 _ _ C hc h hC hr
theorem sq {c:Code} (hc:Code.kind c=.seq) (h:Run P fn b R (.code (Code.sub c 0)::.code (Code.sub c 1)::k) ρ H):Run P fn b R (.code c::k) ρ H:=run_seq hc h
theorem sk {c:Code} (hc:Code.kind c=.skip) (h:Run P fn b R k ρ H):Run P fn b R (.code c::k) ρ H:=run_skip hc h
theorem bk {c:Code} {id:Nat} (hc:Code.kind c=.block id) (h:Run P fn b R (.code (Code.sub c 0)::.block id::k) ρ H):Run P fn b R (.code c::k) ρ H:=run_block hc h
theorem eb {id:Nat} (h:Run P fn b R k ρ H):Run P fn b R (.block id::k) ρ H:=h
theorem tm {ρ':AEnv} {H':AStore} (h1:trimE (ρ'.map Prod.fst) ρ=some ρ') (h2:trimH (H'.map Prod.fst) H=some H') (hn:nodupB (H'.map Prod.fst)=true) (h:Run P fn b R k ρ' H'):Run P fn b R k ρ H:=run_trim _ _ h1 h2 hn h
end
theorem sumL {α β γ:Type} {f:α→Option γ} {g:β→Option γ} {a:α} {y:γ} (h:Sum.elim f g (Sum.inl a)=some y):f a=some y:=h
theorem sumR {α β γ:Type} {f:α→Option γ} {g:β→Option γ} {a:β} {y:γ} (h:Sum.elim f g (Sum.inr a)=some y):g a=some y:=h
theorem inrI {σ τ:Type} {a:τ} {o:σ⊕τ} {r:τ} (hr:∀q,o=.inr q→q=r) (h:some (Sum.inr a)=some o):a=r:=hr a (inj h).symm
def coeM:List (Option Sh)→List AVal→Option (List AVal)
 | [],[]=>some []
 | some s::ss,α::l=>match coeA s α,coeM ss l with
  | some β,some r=>some (β::r)
  | _,_=>none
 | none::ss,α::l=>match coeM ss l with
  | some r=>some (α::r)
  | none=>none
 | _,_=>none
theorem coeM_ok {P:Program} {M:Fz} {φ:Nat→Value}:∀{ss:List (Option Sh)} {l l':List AVal} {us:List Value},coeM ss l=some l'→RelVs P M φ l us→RelVs P M φ l' us
 | [],[],l',us,h,hr=>by simp only [coeM,injEq] at h;subst h;exact hr
 | some s::ss,α::l,l',us,h,hr=>by
  simp only [coeM] at h
  split at h
  ·rename_i β r h1 h2
   simp only [injEq] at h
   subst h
   obtain ⟨u,q,rfl,k1,k2⟩:=hr
   exact ⟨u,q,rfl,coeA_ok h1 k1,coeM_ok h2 k2⟩
  ·cases h
 | none::ss,α::l,l',us,h,hr=>by
  simp only [coeM] at h
  split at h
  ·rename_i r h2
   simp only [injEq] at h
   subst h
   obtain ⟨u,q,rfl,k1,k2⟩:=hr
   exact ⟨u,q,rfl,k1,coeM_ok h2 k2⟩
  ·cases h
 | [],_::_,_,_,h,_=>by simp [coeM] at h
 | some _::_,[],_,_,h,_=>by simp [coeM] at h
 | none::_,[],_,_,h,_=>by simp [coeM] at h
theorem coeM_len:∀{ss:List (Option Sh)} {l l':List AVal},coeM ss l=some l'→l'.length=l.length
 | [],[],l',h=>by simp only [coeM,injEq] at h;subst h;rfl
 | some s::ss,α::l,l',h=>by
  simp only [coeM] at h
  split at h
  ·rename_i β r h1 h2
   simp only [injEq] at h
   subst h
   simp [coeM_len h2]
  ·cases h
 | none::ss,α::l,l',h=>by
  simp only [coeM] at h
  split at h
  ·rename_i r h2
   simp only [injEq] at h
   subst h
   simp [coeM_len h2]
  ·cases h
 | [],_::_,_,h=>by simp [coeM] at h
 | some _::_,[],_,h=>by simp [coeM] at h
 | none::_,[],_,h=>by simp [coeM] at h
theorem oneM_ok {P:Program} {M:Fz} {φ:Nat→Value} {ss:List (Option Sh)} {l l':List AVal} {u:Value} (h:coeM ss l=some l') (hr:RelV P M φ (one l) u):RelV P M φ (one l') u:=by
 have hl:=coeM_len h
 match l,l',h,hl,hr with
 | [],[],_,_,hr=>exact hr
 | [α],[β],h,_,hr =>
  have:=coeM_ok h (us:=[u]) ⟨u,[],rfl,hr,rfl⟩
  obtain ⟨v,r,e,h1,h2⟩:=this
  simp only [List.cons.injEq] at e
  rw [e.1]
  exact h1
 | α::γ::l,β::δ::l',h,_,hr =>
  obtain ⟨us,e,h1⟩:=hr
  exact ⟨us,e,coeM_ok h h1⟩
theorem run_cutx {P:Program} {fn:Func} {n0:Nat} {b:Base n0} {R:Exit→Act→World→Prop} {k:List KI} {ρ:AEnv} {H:AStore} {σ:Type} (id:Nat) {k':List KI} (_:popTo id k=some k') (Φ:σ→Prop) (ρf:σ→AEnv) (Hf:σ→AStore)
  (hk:∀s,Φ s→Run P fn b R k' (ρf s) (Hf s)) (h:(∀s,Φ s→Run P fn b R k' (ρf s) (Hf s))→Run P fn b R k ρ H):Run P fn b R k ρ H:=h hk
def resM (P:Program) (ρ:AEnv) (H:AStore) (rs:List ResultVar) (ss:List (Option Sh)):Option (List AVal):=match resAs P ρ H rs with
 | some q=>coeM ss q
 | none=>none
theorem ret_mut {P:Program} {fn:Func} {n0:Nat} {b:Base n0} {k:List KI} {ρ:AEnv} {H:AStore} {c:Code} {q:List AVal} {β:AVal} {Ho:AStore} (ss:List (Option Sh)) (lh:List Nat) (hc:Code.kind c=.ret) (hb:one q=β) (hq:resM P ρ H fn.results.toList ss=some q) (hn:nodupB lh=true) (hh:trimH lh H=some Ho):Run P fn b (bodyB P fn b (MutR P b β Ho)) (.code c::k) ρ H:=by
 subst hb
 unfold resM at hq
 split at hq
 ·rename_i q0 h1
  obtain ⟨k1,k2⟩:=trimH_ok hh
  exact run_ret hc h1 fun M φ ξ w v hc hv=>⟨M,φ,ξ,v,rfl,hc.pick (by rw [k1];exact nodupB_ok hn) k2,oneM_ok hq hv⟩
 ·cases hq
theorem fall_mut {P:Program} {fn:Func} {n0:Nat} {b:Base n0} {ρ:AEnv} {H:AStore} {q:List AVal} {β:AVal} {Ho:AStore} (ss:List (Option Sh)) (lh:List Nat) (hb:one q=β) (hq:resM P ρ H fn.results.toList ss=some q) (hn:nodupB lh=true) (hh:trimH lh H=some Ho):Run P fn b (bodyB P fn b (MutR P b β Ho)) [] ρ H:=by
 subst hb
 unfold resM at hq
 split at hq
 ·rename_i q0 h1
  obtain ⟨k1,k2⟩:=trimH_ok hh
  exact run_fall h1 fun M φ ξ w v hc hv=>⟨M,φ,ξ,v,rfl,hc.pick (by rw [k1];exact nodupB_ok hn) k2,oneM_ok hq hv⟩
 ·cases hq
section
variable {P:Program} {fn:Func} {n0:Nat} {b:Base n0} {R:Exit→Act→World→Prop} {k:List KI} {ρ:AEnv} {H:AStore}
theorem nil_eq {T e:TypeId} {x:Operand} {M:Fz} {φ:Nat→Value} {s:Sh} {xs:List s.ty} {u:Value} (hT:slB P T=some e) (h0:0<s.size) (hu:RelV P M φ (.v (.sl s) xs) u) (w:World):∃z:Bool,(eqN .eql T x (.const (.slice none 0 0)) u (.slice none 0 0)).run P w=.ok (.bool z) w∧(z=true→xs=[]):=by
 obtain ⟨hf,cs,rfl,A,n,cap,vs,rfl,rfl,h3,h4,h5⟩:=hu
 have hf':s.fixed=true:=by simp only [Sh.fixed,Bool.and_eq_true] at hf;exact hf.1
 have hl:=RepL_len (fun c y hc=>rep_len hf' hc) h5
 have key:(eqN .eql T x (.const (.slice none 0 0)) (.slice A xs.length cap) (.slice none 0 0)).run P w=.ok (.bool A.isNone) w:=by
  show (do eqGuard .eql T x (.const (.slice none 0 0)) (.slice A xs.length cap) (.slice none 0 0);Value.bool <$> Op.equal T (.slice A xs.length cap) (.slice none 0 0):Sem Value).run P w=_
  have e1:(eqGuard .eql T x (.const (.slice none 0 0)) (.slice A xs.length cap) (.slice none 0 0)).run P w=.ok () w:=rfl
  simp [e1,run_equal_slice_nil w T e A xs.length cap (slB_ok hT)]
 refine ⟨A.isNone,key,fun hz=>?_⟩
 cases A with
 | none =>
  cases xs with
  | nil=>rfl
  | cons y ys =>
   have hp:0<vs.length:=by rw [hl];exact Nat.mul_pos (by simp) h0
   obtain ⟨_,_,_,h,_⟩:=h4 0 hp
   cases h
 | some a=>cases hz
theorem run_nilreg {c:Code} {ops:Array Oper} {ρ1:AEnv} {H1:AStore} {C:List Prop} {d n:Nat} {T T' ty e:TypeId} {x:Operand} {s:Sh} {xs:List s.ty} {pos after} (orc:List (Nat×Orc)) (dec:List (Nat×Bool)) (L0:Nat) (hc:Code.kind c=.region ops false)
  (hn:ops.size=n+1) (ho:ops[n]?=some ⟨some d,.binOp .eql T x (.const (.slice none 0 0)) T',ty,pos,after,none⟩)
  (h:evOps P n0 fn.ntmps orc dec L0 ops (List.range n) ρ H=some (ρ1,H1,C)) (hC:AllP C)
  (hx:evA P ρ1 T x=some (.v (.sl s) xs)) (hT:slB P T=some e) (h0:Nat.blt 0 s.size=true) (hd:Nat.blt d fn.ntmps=true)
  (ht:xs=[]→Run P fn b R k ((d,vb true)::ρ1) H1) (hf:Run P fn b R k ((d,vb false)::ρ1) H1):Run P fn b R (.code c::k) ρ H:=by
 cases c<;>simp [Code.kind] at hc
 obtain ⟨rfl,rfl⟩:=hc
 rename_i ops
 rw [Nat.blt_eq] at hd h0
 have last:Run P fn b R (.ops ops [n]::k) ρ1 H1:=by
  intro a w h1 h2 h3
  show wpOps P ops _ [n] a w
  obtain ⟨M,φ,ξ,g1,g2⟩:=h1
  have hw:=gdE_ok (z:=true) g2 (o:=⟨some d,.binOp .eql T x (.const (.slice none 0 0)) T',ty,pos,after,none⟩) (ops:=ops) (by simp [gdE])
  simp only [wpOps,ho,hw]
  simp only [if_true]
  left
  unfold Oper.wp
  obtain ⟨z,hz,hzx⟩:=nil_eq (x:=x) hT h0 (evA_ok g2 hx) w
  have hr:(execOp a.eval ⟨some d,.binOp .eql T x (.const (.slice none 0 0)) T',ty,pos,after,none⟩).run P w=.ok (.value (.bool z)) w:=by
   have e1:a.eval (.const (.slice none 0 0))=.slice none 0 0:=rfl
   show (vN (eqN .eql T x (.const (.slice none 0 0)) (a.eval x) (a.eval (.const (.slice none 0 0))))).run P w=_
   rw [e1]
   simp [vN,hz]
  rw [hr]
  simp only [Oper.upon_value]
  have hr2:St P b ((d,vb z)::ρ1) H1 (a.put d (.bool z)).tmps w:=⟨M,φ,ξ,g1,g2.put d _ _ (by rw [h2];exact hd) ⟨rfl,_,rfl,rfl⟩⟩
  cases z with
  | true=>exact ht (hzx rfl) _ w hr2 (by rw [put_size];exact h2) h3
  | false=>exact hf _ w hr2 (by rw [put_size];exact h2) h3
 have key:=run_opsA (k:=k) h hC last
 have e0:List.range n++[n]=List.range ops.size:=by rw [hn];exact List.range_succ.symm
 rw [e0] at key
 exact fun a w g1 g2 g3=>wp_region (key a w g1 g2 g3)
end
def renF (N L:Nat) (x:Nat):Nat:=if Nat.beq x N then L else x
def renHs (f:Nat→Nat):AStore→AStore
 | []=>[]
 | x::H=>(x.1,renI f x.2)::renHs f H
theorem renHs_mem {f:Nat→Nat}:∀{H:AStore} {x:Nat×AItem},x∈renHs f H→∃it,(x.1,it)∈H∧x.2=renI f it
 | [],x,h=>by cases h
 | y::H,x,h=>by
  simp only [renHs] at h
  rcases List.mem_cons.1 h with rfl|h
  ·exact ⟨y.2,List.mem_cons_self ..,rfl⟩
  ·obtain ⟨it,h1,h2⟩:=renHs_mem h;exact ⟨it,List.mem_cons_of_mem _ h1,h2⟩
theorem renHs_fst {f:Nat→Nat}:∀{H:AStore},(renHs f H).map Prod.fst=H.map Prod.fst
 | []=>rfl
 | y::H=>by simp [renHs,renHs_fst]
section
variable {P:Program} {fn:Func} {n0:Nat} {b:Base n0} {R:Exit→Act→World→Prop} {k:List KI} {M:Fz} {φ:Nat→Value} {ξ:Nat→Option Nat} {H:AStore} {w:World} {ρ:AEnv}
theorem Core.renAll {f:Nat→Nat} (s:Core P b M φ ξ H w) (hr:allB AItem.rnB H=true) (hf:∀l,φ (f l)=φ l):Core P b M φ ξ (renHs f H) w:=by
 refine ⟨s.le,s.same,s.over,s.below,fun L it hi=>?_,fun L it g hi hg=>?_,fun L L' it it' g hi hi' hg hg'=>?_,by rw [renHs_fst];exact s.nd,s.keep⟩
 ·obtain ⟨it0,h1,h2⟩:=renHs_mem hi
  have h2:it=renI f it0:=h2
  rw [h2]
  exact held_ren (allB_mem hr _ h1) (fun l _=>hf l) (s.items L it0 h1)
 ·obtain ⟨it0,h1,_⟩:=renHs_mem hi
  exact s.feet L it0 g h1 hg
 ·obtain ⟨i1,h1,_⟩:=renHs_mem hi
  obtain ⟨i2,h2,_⟩:=renHs_mem hi'
  exact s.sep L L' i1 i2 g h1 h2 hg hg'
theorem Core.seen {H1 H2:AStore} {L:Nat} {it it':AItem} (s:Core P b M φ ξ (H1++(L,it)::H2) w) (h:Held P M φ w (φ L) (ξ L) it→Held P M φ w (φ L) (ξ L) it'):Core P b M φ ξ (H1++(L,it')::H2) w:=by
 have mem:∀{l i},(l,i)∈H1++(L,it')::H2→∃i',(l,i')∈H1++(L,it)::H2∧(i=i'∨(l=L∧i=it'∧i'=it)):=by
  intro l i hi
  rcases List.mem_append.1 hi with hi|hi
  ·exact ⟨i,List.mem_append_left _ hi,.inl rfl⟩
  ·rcases List.mem_cons.1 hi with e|hi
   ·simp only [Prod.mk.injEq] at e
    obtain ⟨rfl,rfl⟩:=e
    exact ⟨it,List.mem_append_right _ (List.mem_cons_self ..),.inr ⟨rfl,rfl,rfl⟩⟩
   ·exact ⟨i,List.mem_append_right _ (List.mem_cons_of_mem _ hi),.inl rfl⟩
 refine ⟨s.le,s.same,s.over,s.below,fun l i hi=>?_,fun l i g hi hg=>?_,fun l l' i i' g hi hi' hg hg'=>?_,by simpa using s.nd,s.keep⟩
 ·obtain ⟨i',h1,h2⟩:=mem hi
  rcases h2 with rfl|⟨rfl,rfl,rfl⟩
  ·exact s.items l _ h1
  ·exact h (s.items l _ h1)
 ·obtain ⟨i',h1,_⟩:=mem hi
  exact s.feet l i' g h1 hg
 ·obtain ⟨j,h1,_⟩:=mem hi
  obtain ⟨j',h1',_⟩:=mem hi'
  exact s.sep l l' j j' g h1 h1' hg hg'
theorem run_renF {ρ':AEnv} (N L:Nat) {it:AItem} (hl:look H N=some it) (hL:freshB n0 L ρ H=true) (hp:it.labs=[]) (hq:allB AItem.rnB ((L,it)::remL H N)=true) (h1:mapA (renA N L) ρ=some ρ') {H':AStore} (h2:renHs (renF N L) ((L,it)::remL H N)=H') (h:Run P fn b R k ρ' H'):Run P fn b R k ρ H :=
 run_st h fun tmps w ⟨M,φ,ξ,g1,g2⟩=>by
  obtain ⟨H1,H2,rfl,_,hrem⟩:=look_split hl
  rw [hrem] at h2 hq
  subst h2
  have hh:=g1.items N it (look_mem hl)
  have hne:N≠L:=fresh_store hL N (mem_labs (look_mem hl)).1
  refine ⟨M,upd φ L (φ N),upd ξ L (ξ N),Core.renAll (g1.repl hL rfl rfl rfl (Nat.le_refl _) (fun _ _ _=>rfl) (held_labs (fun l hl=>by rw [hp] at hl;cases hl) hh) (fun g hg=>.inr hg)) hq (fun l=>?_),?_⟩
  ·unfold renF
   split
   ·rename_i e
    have e:=Nat.eq_of_beq_eq_true e
    subst e
    rw [upd_same,upd_ne hne]
   ·rfl
  ·refine mapA_ok (fun t α hm β u hf hr=>?_) h1 g2
   have hfr:=fresh_env hL (f:=φ) (x:=φ N)
   unfold renA at hf
   split at hf
   ·rename_i K
    simp only [injEq] at hf
    subst hf
    split
    ·rename_i e
     have e:=Nat.eq_of_beq_eq_true e
     subst e
     exact ⟨by rw [upd_same];exact hr.1,hr.2⟩
    ·exact relV_labs (α:=.row K) (fun l hl=>hfr l (env_labs hm l hl)) hr
   ·simp only [injEq] at hf
    subst hf
    exact relV_labs (fun l hl=>hfr l (env_labs hm l hl)) hr
theorem run_nilF (V L:Nat) (p:Path) (e:TypeId) (s:Sh) {T:TypeId} {S t:Sh} {x:S.ty} {y:Unit} {r:TV} (hs:s.fixed=true) (hl:look H V=some (.var T S x)) (hg:getP S x p=some ⟨.nl t,y⟩) (hi:noI p=true) (hr:setP S x p ⟨.ref,L⟩=some r) (hf:r.1.fixed=true) (hL:freshB n0 L ρ H=true) {H':AStore} (h2:(L,.row e s [])::setL H V (.var T r.1 r.2)=H') (h:Run P fn b R k ρ H'):Run P fn b R k ρ H :=
 run_st h fun tmps w ⟨M,φ,ξ,g1,g2⟩=>by
  obtain ⟨H1,H2,rfl,hset,_⟩:=look_split hl
  rw [hset] at h2
  subst h2
  have g4:=g1.grow (u:=.slice none 0 0) (o:=none) (it:=.row e s []) hL rfl rfl rfl (Nat.le_refl _) (fun _ _=>rfl) ⟨hs,none,0,rfl,.inl ⟨rfl,rfl,rfl,rfl⟩⟩ (fun g hg=>by cases hg)
  refine ⟨M,upd φ L (.slice none 0 0),upd ξ L none,Core.seen (H1:=(L,.row e s [])::H1) g4 ?_,g2.labs (fresh_env hL (f:=φ) (x:=.slice none 0 0))⟩
  rintro ⟨q1,g,c,q2,q3,q4,q5⟩
  obtain ⟨pre,cs,post,k1,k2,k3,k4⟩:=rep_get (.inl q1) q5 hg (okP_noI hi hg)
  refine ⟨hf,g,c,q2,q3,q4,?_⟩
  rw [k1]
  refine k4 cs ⟨.ref,L⟩ r rfl ?_ hr
  simp only [RepC] at k3
  subst k3
  exact ⟨by show _=[upd φ L _ L];rw [upd_same],by show (upd φ L (Value.slice none 0 0) L).oneCell'=true;rw [upd_same];rfl⟩
end
theorem rslG_gen {P:Program} {M M':Fz} {φ:Nat→Value} {f:Nat→Option TV} (hle:M.le M') (hf:∀L y,f L=some y→(φ L).oneCell'=true→RepC P φ y.1 M' [φ L] y.2):∀{s:Sh} {x:s.ty} {y:TV} {cs:List Value},rslG f s x=some y→RepC P φ s M cs x→RepC P φ y.1 M' cs y.2:=by
 intro s
 have pers:∀{s:Sh} {x:s.ty} {y:TV} {cs:List Value},(if s.pers then some (⟨s,x⟩:TV) else none)=some y→RepC P φ s M cs x→RepC P φ y.1 M' cs y.2:=by
  intro s x y cs h hr
  split at h
  ·simp only [injEq] at h
   subst h
   exact rep_mono hle hr
  ·cases h
 induction s with
 | ref =>
  intro x y cs h hr
  obtain ⟨rfl,h1⟩:=hr
  exact hf _ _ h h1
 | prod a b iha ihb =>
  intro x y cs h hr
  simp only [rslG] at h
  split at h
  ·simp only [injEq] at h
   subst h
   exact rep_mono hle hr
  ·split at h
   ·rename_i y1 z1 h1 h2
    simp only [injEq] at h
    subst h
    obtain ⟨c1,c2,rfl,k1,k2⟩:=hr
    exact ⟨c1,c2,rfl,iha h1 k1,ihb h2 k2⟩
   ·cases h
 | st s ih =>
  intro x y cs h hr
  simp only [rslG] at h
  split at h
  ·rename_i y1 h1
   simp only [injEq] at h
   subst h
   have:=ih h1 hr
   exact this
  ·cases h
 | oref =>
  intro x y cs h hr
  simp only [rslG,injEq] at h
  subst h
  obtain ⟨v,h1,rfl,_⟩:=hr
  exact ⟨v,h1,rfl⟩
 | _=>intro x y cs h hr;exact pers h hr
def frzL (L:Nat) (s:Sh) (xs:List s.ty) (x:Nat):Option TV:=if Nat.beq x L then some ⟨.sl s,xs⟩ else some ⟨.ref,x⟩
def frzC (L:Nat) (s:Sh) (xs:List s.ty):AVal→Option AVal
 | .row x=>some (if Nat.beq x L then .v (.sl s) xs else .row x)
 | .v t y=>if t.pers then some (.v t y) else match rslG (frzL L s xs) t y with
  | some z=>if z.1.fixed&&(z.1.agg==t.agg) then some (.v z.1 z.2) else none
  | none=>none
 | α=>some α
def frzI (L:Nat) (s:Sh) (xs:List s.ty):AItem→Option AItem
 | .var T t y=>if t.pers then some (.var T t y) else match rslG (frzL L s xs) t y with
  | some z=>if z.1.fixed then some (.var T z.1 z.2) else none
  | none=>none
 | it=>some it
def mapH (g:AItem→Option AItem):AStore→Option AStore
 | []=>some []
 | x::H=>match g x.2,mapH g H with
  | some i,some r=>some ((x.1,i)::r)
  | _,_=>none
theorem mapH_mem {g:AItem→Option AItem}:∀{H H':AStore},mapH g H=some H'→H'.map Prod.fst=H.map Prod.fst∧∀L it,(L,it)∈H'→∃it0,(L,it0)∈H∧g it0=some it
 | [],H',h=>by simp only [mapH,injEq] at h;subst h;exact ⟨rfl,fun L it hi=>by cases hi⟩
 | x::H,H',h=>by
  simp only [mapH] at h
  split at h
  ·rename_i i r h1 h2
   simp only [injEq] at h
   subst h
   obtain ⟨k1,k2⟩:=mapH_mem h2
   refine ⟨by simp [k1],fun L it hi=>?_⟩
   rcases List.mem_cons.1 hi with e|hi
   ·simp only [Prod.mk.injEq] at e
    obtain ⟨rfl,rfl⟩:=e
    exact ⟨x.2,List.mem_cons_self ..,h1⟩
   ·obtain ⟨it0,q1,q2⟩:=k2 L it hi
    exact ⟨it0,List.mem_cons_of_mem _ q1,q2⟩
  ·cases h
def shP:Sh→Path→Option Sh
 | s,[]=>some s
 | .st s,.u::p=>shP s p
 | .prod a _,.l::p=>shP a p
 | .prod _ b,.r::p=>shP b p
 | _,_=>none
theorem offI {e:Sh} {m k sz n2:Nat} {q:Path}:∀{p:Path} {s:Sh} {n1:Nat},shP s p=some (.arr m e)→offP s p=n1→e.size=sz→offP e q=n2→offP s (p++.i k::q)=n1+k*sz+n2
 | [],s,n1,h0,h1,h2,h3=>by
  simp only [shP,injEq] at h0
  subst h0 h2 h3
  rw [← h1]
  simp [offP]
 | x::p,s,n1,h0,h1,h2,h3=>by
  cases s<;>cases x<;>simp only [shP,reduceCtorEq] at h0
  ·subst h1;exact offI (p:=p) h0 rfl h2 h3
  ·subst h1;have:=offI (p:=p) (k:=k) h0 rfl h2 h3;simp only [List.cons_append,offP,this];omega
  ·subst h1;exact offI (p:=p) h0 rfl h2 h3
section
variable {P:Program} {fn:Func} {n0:Nat} {b:Base n0} {R:Exit→Act→World→Prop} {k:List KI} {M:Fz} {φ:Nat→Value} {ξ:Nat→Option Nat} {H:AStore} {w:World} {ρ:AEnv}
theorem core_map {g:AItem→Option AItem} {H':AStore} (h2:mapH g H=some H') (hg:∀L it it',(L,it)∈H→g it=some it'→Held P M φ w (φ L) (ξ L) it→Held P M φ w (φ L) (ξ L) it') (s:Core P b M φ ξ H w):Core P b M φ ξ H' w:=by
 obtain ⟨k1,k2⟩:=mapH_mem h2
 refine ⟨s.le,s.same,s.over,s.below,fun L it hi=>?_,fun L it g hi hg=>?_,fun L L' it it' g hi hi' hg hg'=>?_,by rw [k1];exact s.nd,s.keep⟩
 ·obtain ⟨it0,q1,q2⟩:=k2 L it hi
  exact hg L it0 it q1 q2 (s.items L it0 q1)
 ·obtain ⟨it0,q1,_⟩:=k2 L it hi
  exact s.feet L it0 g q1 hg
 ·obtain ⟨i1,q1,_⟩:=k2 L it hi
  obtain ⟨i2,q2,_⟩:=k2 L' it' hi'
  exact s.sep L L' i1 i2 g q1 q2 hg hg'
theorem run_frzC {ρ':AEnv} (L:Nat) {e:TypeId} {s:Sh} {xs:List s.ty} (hE:b.E=[]) (hl:look H L=some (.row e s xs)) (hp:s.pers=true) (h1:mapA (frzC L s xs) ρ=some ρ') {H':AStore} (h2:mapH (frzI L s xs) (remL H L)=some H') (h:Run P fn b R k ρ' H'):Run P fn b R k ρ H :=
 run_st h fun tmps w ⟨M,φ,ξ,g1,g2⟩=>by
  obtain ⟨M',c1,hle,hv⟩:=core_frz L hE hl hp g1
  have put:∀K y,frzL L s xs K=some y→(φ K).oneCell'=true→RepC P φ y.1 M' [φ K] y.2:=by
   intro K y hy h1c
   unfold frzL at hy
   split at hy
   ·rename_i e
    have e:=Nat.eq_of_beq_eq_true e
    subst e
    simp only [injEq] at hy
    subst hy
    obtain ⟨_,cs',e1,e2⟩:=hv
    obtain ⟨A,n,cap,vs,rfl,e3⟩:=e2
    have e1:φ K=.slice A n cap:=e1
    exact ⟨A,n,cap,vs,by rw [e1],e3⟩
   ·simp only [injEq] at hy
    subst hy
    exact ⟨rfl,h1c⟩
  refine ⟨M',φ,ξ,core_map h2 (fun K it it' hi hg hh=>?_) c1,mapA_ok (fun t α _ β u hfz hr=>?_) h1 g2⟩
  ·unfold frzI at hg
   split at hg
   ·split at hg
    ·simp only [injEq] at hg
     subst hg
     exact hh
    ·split at hg
     ·rename_i z hz
      split at hg
      ·rename_i hf
       simp only [injEq] at hg
       subst hg
       obtain ⟨_,g,c,q2,q3,q4,q5⟩:=hh
       exact ⟨hf,g,c,q2,q3,q4,rslG_gen (Fz.le_refl _) put hz q5⟩
      ·cases hg
     ·cases hg
   ·simp only [injEq] at hg
    subst hg
    exact hh
  unfold frzC at hfz
  split at hfz
  ·simp only [injEq] at hfz
   subst hfz
   split
   ·rename_i e
    have e:=Nat.eq_of_beq_eq_true e
    subst e
    rw [hr.1]
    exact hv
   ·exact hr
  ·split at hfz
   ·simp only [injEq] at hfz
    subst hfz
    exact relV_mono hle hr
   ·split at hfz
    ·rename_i z hz
     split at hfz
     ·rename_i hh
      simp only [Bool.and_eq_true,beq_iff_eq] at hh
      simp only [injEq] at hfz
      subst hfz
      obtain ⟨q1,cs,rfl,q2⟩:=hr
      exact ⟨hh.1,cs,by simp [mkV,hh.2],rslG_gen hle put hz q2⟩
     ·cases hfz
    ·cases hfz
  ·simp only [injEq] at hfz
   subst hfz
   exact relV_mono hle hr
end
abbrev Kn:=AEnv×AStore×List Prop
def bnE (e:Option Kn) (f:AEnv→AStore→Option Kn):Option Kn :=
 match e with
 | some (ρ,H,C)=>match f ρ H with
  | some (ρ',H',C')=>some (ρ',H',C++C')
  | none=>none
 | none=>none
def evRen (n0 N L:Nat) (ρ:AEnv) (H:AStore):Option Kn :=
 match look H N with
 | some it=>if freshB n0 L ρ H&&it.labs.isEmpty&&allB AItem.rnB ((L,it)::remL H N) then match mapA (renA N L) ρ with
   | some ρ'=>some (ρ',renHs (renF N L) ((L,it)::remL H N),[])
   | none=>none
  else none
 | none=>none
noncomputable def evNil (n0 V L:Nat) (p:Path) (e:TypeId) (s:Sh) (ρ:AEnv) (H:AStore):Option Kn :=
 match look H V with
 | some (.var T S x)=>match getP S x p with
  | some ⟨.nl _,_⟩=>match setP S x p ⟨.ref,L⟩ with
   | some r=>if s.fixed&&noI p&&r.1.fixed&&freshB n0 L ρ H then some (ρ,(L,.row e s [])::setL H V (.var T r.1 r.2),[]) else none
   | none=>none
  | _=>none
 | _=>none
theorem rr (α:AVal):α=α:=rfl
def okJ (s:Sh) (p q:Path) (n1 sz n2:Nat):Bool:=match shP s p with
 | some (.arr _ e)=>Nat.beq (offP s p) n1&&Nat.beq e.size sz&&Nat.beq (offP e q) n2
 | _=>false
theorem oI (s:Sh) (p:Path) (k:Nat) (q:Path) (n1 sz n2:Nat) (h:okJ s p q n1 sz n2=true:=by kernel_rfl):offP s (p++.i k::q)=n1+k*sz+n2:=by
 unfold okJ at h
 split at h
 ·rename_i m e h0
  simp only [Bool.and_eq_true] at h
  exact offI h0 (Nat.eq_of_beq_eq_true h.1.1) (Nat.eq_of_beq_eq_true h.1.2) (Nat.eq_of_beq_eq_true h.2)
 ·cases h
theorem oJ (s:Sh) (p:Path) (k:Nat) (q:Path) (n1 sz:Nat) (h:okJ s p q n1 sz 0=true:=by kernel_rfl):offP s (p++.i k::q)=n1+k*sz:=oI s p k q n1 sz 0 h
theorem bnE_some {e:Option Kn} {f:AEnv→AStore→Option Kn} {ρ':AEnv} {H':AStore} {C2:List Prop} (h:bnE e f=some (ρ',H',C2)):∃ρ H C C',e=some (ρ,H,C)∧f ρ H=some (ρ',H',C')∧C2=C++C':=by
 unfold bnE at h
 split at h
 ·rename_i ρ H C
  split at h
  ·rename_i r1 r2 C' he
   simp only [injEq,Prod.mk.injEq] at h
   obtain ⟨rfl,rfl,rfl⟩:=h
   exact ⟨ρ,H,C,C',rfl,he,rfl⟩
  ·cases h
 ·cases h
section
variable {P:Program} {fn:Func} {n0:Nat} {b:Base n0} {R:Exit→Act→World→Prop} {k:List KI} {ρ:AEnv} {H:AStore} {ops:Array Oper} {e:Option Kn}
def RunE (P:Program) (fn:Func) {n0:Nat} (b:Base n0) (R:Exit→Act→World→Prop) (k:List KI) (e:Option Kn):Prop:=∃ρ H C,e=some (ρ,H,C)∧AllP C∧Run P fn b R k ρ H
theorem sE (h:RunE P fn b R k (some (ρ,H,[]))):Run P fn b R k ρ H:=by
 obtain ⟨ρ',H',C,he,_,hr⟩:=h
 simp only [injEq,Prod.mk.injEq] at he
 obtain ⟨rfl,rfl,rfl⟩:=he
 exact hr
theorem fE {C:List Prop} (ρ':AEnv) (H':AStore) (h:e=some (ρ',H',C)) (hC:AllP C) (hr:Run P fn b R k ρ' H'):RunE P fn b R k e:=⟨ρ',H',C,h,hC,hr⟩
theorem fA {C:List Prop} (ρ':AEnv) (H':AStore) (hC:AllP C) (hr:Run P fn b R k ρ' H') (h:e=some (ρ',H',C):=by kernel_rfl):RunE P fn b R k e:=fE ρ' H' h hC hr
theorem rA {c:Code} {C:List Prop} (ρ':AEnv) (H':AStore) (orc:List (Nat×Orc)) (dec:List (Nat×Bool)) (L0:Nat) (hc:Code.kind c=.region ops false) (hC:AllP C) (hr:Run P fn b R k ρ' H') (h:evReg P n0 fn.ntmps orc dec L0 (ρ'.map Prod.fst) (H'.map Prod.fst) ops ρ H=some (ρ',H',C):=by kernel_rfl):Run P fn b R (.code c::k) ρ H :=
 reg orc dec L0 _ _ C hc h hC hr
theorem rB {c:Code} {C:List Prop} (ρ':AEnv) (H':AStore) (L0:Nat) (hc:Code.kind c=.region ops false) (hC:AllP C) (hr:Run P fn b R k ρ' H') (h:evReg P n0 fn.ntmps [] [] L0 (ρ'.map Prod.fst) (H'.map Prod.fst) ops ρ H=some (ρ',H',C):=by kernel_rfl):Run P fn b R (.code c::k) ρ H :=
 reg [] [] L0 _ _ C hc h hC hr
theorem rC {c:Code} {C:List Prop} (ρ':AEnv) (H':AStore) (orc:List (Nat×Orc)) (dec:List (Nat×Bool)) (L0:Nat) (hc:Code.kind c=.region ops true) (hC:AllP C) (hr:Run P fn b R k ρ' H') (hm:P.follows .mixedOrders=true:=by rfl) (h:evG P n0 fn.ntmps orc dec L0 (ρ'.map Prod.fst) (H'.map Prod.fst) ops ρ H=some (ρ',H',C):=by kernel_rfl):Run P fn b R (.code c::k) ρ H :=
 regG orc dec L0 _ _ C hm hc h hC hr
theorem RunE.up {k k':List KI} (f:∀ρ H,Run P fn b R k ρ H→Run P fn b R k' ρ H) (h:RunE P fn b R k e):RunE P fn b R k' e :=
 let ⟨ρ,H,C,h1,h2,h3⟩:=h;⟨ρ,H,C,h1,h2,f ρ H h3⟩
theorem qE {c:Code} (hc:Code.kind c=.seq) (h:RunE P fn b R (.code (Code.sub c 0)::.code (Code.sub c 1)::k) e):RunE P fn b R (.code c::k) e:=h.up fun _ _=>sq hc
theorem bE {c:Code} {id:Nat} (hc:Code.kind c=.block id) (h:RunE P fn b R (.code (Code.sub c 0)::.block id::k) e):RunE P fn b R (.code c::k) e:=h.up fun _ _=>bk hc
theorem eE {id:Nat} (h:RunE P fn b R k e):RunE P fn b R (.block id::k) e:=h.up fun _ _=>eb
theorem RunE.bn {k':List KI} {f:AEnv→AStore→Option Kn} (h:RunE P fn b R k (bnE e f)) (g:∀ρ H ρ' H' C,f ρ H=some (ρ',H',C)→AllP C→Run P fn b R k ρ' H'→Run P fn b R k' ρ H):RunE P fn b R k' e:=by
 obtain ⟨ρ2,H2,C2,h1,h2,h3⟩:=h
 obtain ⟨ρ,H,C,C',e1,e2,rfl⟩:=bnE_some h1
 obtain ⟨a1,a2⟩:=AllP.app h2
 exact ⟨ρ,H,C,e1,a1,g _ _ _ _ _ e2 a2 h3⟩
theorem rE {c:Code} (ls lh:List Nat) (orc:List (Nat×Orc)) (dec:List (Nat×Bool)) (L0:Nat) (hc:Code.kind c=.region ops false) (h:RunE P fn b R k (bnE e (evReg P n0 fn.ntmps orc dec L0 ls lh ops))):RunE P fn b R (.code c::k) e :=
 h.bn fun _ _ _ _ C he hC hr=>reg orc dec L0 ls lh C hc he hC hr
theorem oE {c:Code} (ls lh:List Nat) (L0:Nat) (hc:Code.kind c=.region ops false) (h:RunE P fn b R k (bnE e (evReg P n0 fn.ntmps [] [] L0 ls lh ops))):RunE P fn b R (.code c::k) e:=rE ls lh [] [] L0 hc h
theorem gE {c:Code} (ls lh:List Nat) (orc:List (Nat×Orc)) (dec:List (Nat×Bool)) (L0:Nat) (hm:P.follows .mixedOrders=true) (hc:Code.kind c=.region ops true) (h:RunE P fn b R k (bnE e (evG P n0 fn.ntmps orc dec L0 ls lh ops))):RunE P fn b R (.code c::k) e :=
 h.bn fun _ _ _ _ C he hC hr=>regG orc dec L0 ls lh C hm hc he hC hr
theorem nE (N L:Nat) (h:RunE P fn b R k (bnE e (evRen n0 N L))):RunE P fn b R k e :=
 h.bn fun ρ H ρ' H' C he hC hr=>by
  unfold evRen at he
  split at he
  ·rename_i it hl
   split at he
   ·rename_i hq
    simp only [Bool.and_eq_true,List.isEmpty_iff] at hq
    split at he
    ·rename_i r1 h1
     simp only [injEq,Prod.mk.injEq] at he
     obtain ⟨rfl,rfl,rfl⟩:=he
     exact run_renF N L hl hq.1.1 hq.1.2 hq.2 h1 rfl hr
    ·cases he
   ·cases he
  ·cases he
theorem zE (V L:Nat) (p:Path) (t:TypeId) (s:Sh) (h:RunE P fn b R k (bnE e (evNil n0 V L p t s))):RunE P fn b R k e :=
 h.bn fun ρ H ρ' H' C he hC hr=>by
  unfold evNil at he
  split at he
  ·rename_i T S x hl
   split at he
   ·rename_i u y hg
    split at he
    ·rename_i r hs
     split at he
     ·rename_i hq
      simp only [Bool.and_eq_true] at hq
      simp only [injEq,Prod.mk.injEq] at he
      obtain ⟨rfl,rfl,rfl⟩:=he
      exact run_nilF V L p t s hq.1.1.1 hl hg hq.1.1.2 hs hq.1.2 hq.2 rfl hr
     ·cases he
    ·cases he
   ·cases he
  ·cases he
end
def panE (pv:Value):Ending:=.panicked [{ v:=pv,recovered:=false }]
abbrev Pan (P:Program) (f:FuncId) (n0:Nat) (l:List AVal) (Hi:AStore) (pv:Value):Prop:=MutG P f n0 l Hi (fun _=>panE pv) .undef []
def MutS (P:Program) (f:FuncId) (n0:Nat) (l:List AVal) (Hi:AStore):Value⊕(AVal×AStore)→Prop
 | .inl pv=>Pan P f n0 l Hi pv
 | .inr r=>Mut P f n0 l Hi r.1 r.2
def MutSR (P:Program) {n0:Nat} (b:Base n0):Value⊕(AVal×AStore)→Ending→World→Prop
 | .inl pv,e,w'=>∃M' φ' ξ',e=panE pv∧Core P b M' φ' ξ' [] w'
 | .inr r,e,w'=>MutR P b r.1 r.2 e w'
theorem mutSR_undo {P:Program} {n0:Nat} {b:Base n0} {ds:List Deferred}:∀(o:Value⊕(AVal×AStore)) (e:Ending) (w:World),MutSR P (⟨b.w,b.M,b.E,b.φ0,b.ok,ds⟩:Base n0) o e w→MutSR P b o e w
 | .inl _,_,_,⟨M',φ',ξ',q1,q2⟩=>⟨M',φ',ξ',q1,q2.undo⟩
 | .inr _,_,_,⟨M',φ',ξ',v,q1,q2,q3⟩=>⟨M',φ',ξ',v,q1,q2.undo,q3⟩
theorem mutS_of_run {P:Program} {f:FuncId} {fn:Func} {c:Code} {n0:Nat} {l:List AVal} {Hi:AStore} {o:Value⊕(AVal×AStore)} (h0:Enters P f) (hf:P.funcs[f]?=some fn) (hb:fn.body=some c) (hn:Nat.ble l.length fn.ntmps=true)
  (h:∀b:Base n0,Run P fn b (bodyB P fn b (MutSR P b o)) [.code c] (slots l 0) Hi):MutS P f n0 l Hi o:=by
 have key:∀(b:Base n0) (ξ:Nat→Option Nat) (us:List Value),Core P b b.M b.φ0 ξ Hi b.w→RelVs P b.M b.φ0 l us→Calls P f us.toArray b.w (MutSR P b o):=by
  intro b ξ us hc hr
  have hl:=relVs_len hr
  have hn:=Nat.le_of_ble_eq_true hn
  refine (calls_of_wp hf hb (wp_bodyB (b:=⟨b.w,b.M,b.E,b.φ0,b.ok,[]⟩) rfl (h ⟨b.w,b.M,b.E,b.φ0,b.ok,[]⟩ _ _ ⟨b.M,b.φ0,ξ,hc.ds [],?_⟩ ?_ rfl))).mono (mutSR_undo o)
  ·refine slots_ok hr fun j u hj=>?_
   have hlt:=(List.getElem?_eq_some_iff.1 hj).1
   rw [Nat.zero_add,Array.getElem?_append_left (by simpa using hlt)]
   simpa using hj
  ·simp
   omega
 cases o with
 | inl pv =>
  refine ⟨h0,fun b ξ us hc hr=>(key b ξ us hc hr).mono ?_⟩
  rintro e w' ⟨M',φ',ξ',h1,h2⟩
  exact ⟨M',φ',ξ',undef,h1,h2,rfl⟩
 | inr r=>exact ⟨h0,fun b ξ us hc hr=>(key b ξ us hc hr).mono fun e w' h=>h⟩
theorem kwp_panic {P:Program} {F:Exit→Act→World→Prop} {ch:List PanicEntry} {a:Act} {w:World}:∀{k:List KI},F (.panic ch) a w→kwp P F k (.panic ch) a w
 | [],h=>h
 | .code _::k,h=>kwp_panic (k:=k) h
 | .block _::k,h=>kwp_panic (k:=k) h
 | .loop _::k,h=>kwp_panic (k:=k) h
 | .scope::k,h=>kwp_panic (k:=k) h
 | .ops _ _::k,h=>kwp_panic (k:=k) h
section
variable {P:Program} {fn:Func} {n0:Nat} {b:Base n0} {R:Exit→Act→World→Prop} {k:List KI} {ρ:AEnv} {H:AStore} {ops:Array Oper}
theorem pan_ok {pv:Value}:∀a w,St P b [] [] a.tmps w→a.defers=b.ds→bodyB P fn b (MutSR P b (.inl pv)) (.panic [{ v:=pv,recovered:=false }]) a w:=fun a w ⟨M,φ,ξ,hc,_⟩ hd=>⟨hd,M,φ,ξ,rfl,hc⟩
def evP (P:Program) (n0 nt:Nat) (orc:List (Nat×Orc)) (dec:List (Nat×Bool)) (L0 m:Nat) (ps:List PSh) (sg:List Nat) (pv:Value) (ops:Array Oper) (ρ:AEnv) (H:AStore):Option (List Prop) :=
 match evOps P n0 nt orc dec L0 ops (List.range m) ρ H with
 | some (ρ1,H1,C1)=>match ops[m]? with
  | some o=>match gdE ops o ρ1 with
   | some true=>match o.op with
    | .call ⟨.value fx,xs,ts⟩=>match evA P ρ1 0 fx,evL P ρ1 (ts.toList.zip xs.toList) with
     | some (.clo f caps),some l=>if Nat.beq ts.toList.length xs.toList.length then match argML P sg (remLs sg H1) ps (l++caps),pickM sg sg 0 H1 with
      | some (l',_,C),some Hi=>if nodB sg&&nodB ((remLs sg H1).map Prod.fst)&&Nat.ble n0 (L0+20*m)&&ltB (L0+20*m) (storeLabs H1) then some (C1++(C++[Pan P f sg.length l' Hi pv])) else none
      | _,_=>none
      else none
     | _,_=>none
    | _=>none
   | _=>none
  | none=>none
 | none=>none
theorem range_at {n m:Nat} (h:m<n):∃r,List.range n=List.range m++m::r:=by
 refine ⟨List.range' (m+1) (n-m-1),?_⟩
 rw [List.range_eq_range',List.range_eq_range',show n=m+((n-m-1)+1) by omega,← List.range'_append_1 (s:=0) (m:=m)]
 rw [List.range'_succ]
 simp
theorem rgP {c:Code} {C:List Prop} (m:Nat) (orc:List (Nat×Orc)) (dec:List (Nat×Bool)) (L0:Nat) (ps:List PSh) (sg:List Nat) (pv:Value) (hc:Code.kind c=.region ops false) (h:evP P n0 fn.ntmps orc dec L0 m ps sg pv ops ρ H=some C) (hC:AllP C)
  (hr:∀a w,St P b [] [] a.tmps w→a.defers=b.ds→R (.panic [{ v:=pv,recovered:=false }]) a w):Run P fn b R (.code c::k) ρ H:=by
 cases c<;>simp [Code.kind] at hc
 obtain ⟨e9,rfl⟩:=hc
 rw [e9]
 unfold evP at h
 split at h
 ·rename_i ρ1 H1 C1 h1
  split at h
  ·rename_i o ho
   split at h
   ·rename_i hg
    split at h
    ·rename_i fx xs ts hop
     split at h
     ·rename_i f caps l hf hl
      split at h
      ·rename_i ht
       split at h
       ·rename_i l' z C2 Hi ha hp
        split at h
        ·rename_i hh
         simp only [Bool.and_eq_true] at hh
         obtain ⟨⟨⟨k1,k2⟩,k3⟩,k4⟩:=hh
         simp only [injEq] at h
         subst h
         obtain ⟨a1,a2⟩:=AllP.app hC
         obtain ⟨a3,a4,_⟩:=AllP.app a2
         have hm:m<ops.size:=(Array.getElem?_eq_some_iff.1 ho).1
         obtain ⟨r,er⟩:=range_at hm
         have main:Run P fn b R (.ops ops (m::r)::k) ρ1 H1:=by
          intro a w g1 g2 g3
          obtain ⟨M,φ,ξ,q1,q2⟩:=g1
          show wpOps P ops (kwp P R k) (m::r) a w
          unfold wpOps
          rw [ho]
          simp only
          rw [if_pos (gdE_ok q2 hg)]
          left
          have hu:=evA_ok q2 hf
          have hv:=evL_ok q2 hl
          rw [zip_map a.eval _ _ (Nat.eq_of_beq_eq_true ht)] at hv
          have e2:xs.map a.eval=(xs.toList.map a.eval).toArray:=by apply Array.ext';simp
          obtain ⟨us,e,hr2⟩:=hu
          have en:(execOp a.eval o).run P w=.ok (.enter f ((xs.toList.map a.eval).toArray++us.toArray)) w:=by
           obtain ⟨od,oo,oty,op2,oa,og⟩:=o
           simp only at hop
           subst hop
           simp only [execOp,resolve,e,Deferred.ofValue,Sem.run_bind,Sem.run_pure,Result.andThen_ok,invoke]
           rw [e2,Array.empty_append]
           exact a4.1 _ _
          have:=call_mutG q1 ha a3 hp (relVs_app hv hr2) a4 (β:=.undef) (Ho:=[]) (K:=L0+20*m) (nodB_ok k1) rfl rfl (fun _=>rfl) (by simpa [outH] using nodB_ok k2) (Nat.le_of_ble_eq_true k3) (fun L hL=>ltB_mem k4 L hL)
          show o.upon P a _ _ _
          rw [en,Oper.upon_enter]
          have e3:(xs.toList.map a.eval).toArray++us.toArray=(xs.toList.map a.eval++us).toArray:=by simp
          rw [e3]
          refine this.mono ?_
          rintro e w' ⟨M',φ',ξ',v,rfl,c1,c2,c3,c4⟩
          refine kwp_panic (hr a w' ⟨M',φ',ξ',c1.sub (List.nil_sublist _),fun t α h=>by cases h⟩ g3)
         intro a w g1 g2 g3
         refine wp_region ?_
         rw [er]
         exact run_opsA h1 a1 main a w g1 g2 g3
        ·cases h
       ·cases h
      ·cases h
     ·cases h
    ·cases h
   ·cases h
  ·cases h
 ·cases h
def evQ (P:Program) (n0 nt:Nat) (dec:List (Nat×Bool)) (L0 m:Nat) (ops:Array Oper) (ρ:AEnv) (H:AStore):Option (TypeId×AVal×List Prop) :=
 match evOps P n0 nt [] dec L0 ops (List.range m) ρ H with
 | some (ρ1,_,C1)=>match ops[m]?,ops[m+1]? with
  | some ⟨some d,.makeInterface T x,_,_,_,none⟩,some ⟨_,.panic (.tmp d'),_,_,_,none⟩=>match evA P ρ1 T x,P.underlying T with
   | some α,some (.struct _)=>if Nat.beq d d'&&Nat.blt d nt then some (T,α,C1) else none
   | _,_=>none
  | _,_=>none
 | none=>none
theorem rgQ {c:Code} {C:List Prop} {T:TypeId} {α:AVal} (m:Nat) (dec:List (Nat×Bool)) (L0:Nat) (pv:Value) (hc:Code.kind c=.region ops false) (h:evQ P n0 fn.ntmps dec L0 m ops ρ H=some (T,α,C)) (hC:AllP C) (hp:∀M φ u,RelV P M φ α u→Value.iface T u=pv)
  (hr:∀a w,St P b [] [] a.tmps w→a.defers=b.ds→R (.panic [{ v:=pv,recovered:=false }]) a w):Run P fn b R (.code c::k) ρ H:=by
 cases c<;>simp [Code.kind] at hc
 obtain ⟨e9,rfl⟩:=hc
 rw [e9]
 unfold evQ at h
 split at h
 ·rename_i ρ1 H1 C1 h1
  split at h
  ·rename_i d T' x ty1 p1 f1 dq d' ty2 p2 f2 ho ho2
   split at h
   ·rename_i α' fs hx ht
    split at h
    ·rename_i hh
     simp only [Bool.and_eq_true] at hh
     have e1:=Nat.eq_of_beq_eq_true hh.1
     have e2:d<fn.ntmps:=by have:=hh.2;rwa [Nat.blt_eq] at this
     subst e1
     simp only [injEq,Prod.mk.injEq] at h
     obtain ⟨rfl,rfl,rfl⟩:=h
     have hm:m+1<ops.size:=(Array.getElem?_eq_some_iff.1 ho2).1
     obtain ⟨r,er⟩:=range_at hm
     rw [List.range_succ,List.append_assoc] at er
     have main:Run P fn b R (.ops ops (m::(m+1)::r)::k) ρ1 H1:=by
      intro a w g1 g2 g3
      obtain ⟨M,φ,ξ,q1,q2⟩:=g1
      have hu:=evA_ok q2 hx
      show wpOps P ops (kwp P R k) (m::(m+1)::r) a w
      unfold wpOps
      rw [ho]
      simp only [Region.wanted]
      first|rw [if_pos trivial]|rw [if_pos rfl]
      left
      have en:(execOp a.eval ⟨some d,.makeInterface T' x,ty1,p1,f1,none⟩).run P w=.ok (.value (.iface T' (a.eval x))) w:=by
       show (vN (Instr.makeInterface T' (a.eval x))).run P w=_
       refine vN_run ?_
       unfold Instr.makeInterface
       simp [run_underlying ht]
      show Oper.upon P _ a _ _ _
      rw [en,Oper.upon_value]
      unfold wpOps
      rw [ho2]
      simp only [Region.wanted]
      first|rw [if_pos trivial]|rw [if_pos rfl]
      left
      have hd:(a.put (some d) (.iface T' (a.eval x))).eval (.tmp d)=.iface T' (a.eval x):=by
       simp [Act.eval,Act.put,g2,e2]
      have en2:(execOp (a.put (some d) (.iface T' (a.eval x))).eval ⟨dq,.panic (.tmp d),ty2,p2,f2,none⟩).run P w=.halt (.panic (.iface T' (a.eval x))) w:=by
       show (vN (Instr.panic ((a.put (some d) (.iface T' (a.eval x))).eval (.tmp d)))).run P w=_
       rw [hd]
       rfl
      show Oper.upon P _ _ _ _ _
      rw [en2,hp M φ _ hu]
      refine kwp_panic (hr _ w ⟨M,φ,ξ,q1.sub (List.nil_sublist _),fun t α h=>by cases h⟩ ?_)
      rw [put_defers]
      exact g3
     intro a w g1 g2 g3
     refine wp_region ?_
     rw [er]
     exact run_opsA h1 hC main a w g1 g2 g3
    ·cases h
   ·cases h
  ·cases h
 ·cases h
end
section
variable {P:Program} {fn:Func} {n0:Nat} {b:Base n0} {R:Exit→Act→World→Prop} {k:List KI} {ρ:AEnv} {H:AStore} {ops:Array Oper} {orc:List (Nat×Orc)} {dec:List (Nat×Bool)}
theorem any_pan {m L0 nt:Nat} {res:List AVal} (hnt:nt=fn.ntmps) (ok:Plan2 (ops.size+1) orc L0 nt ops (masks ops ops.size) ρ res) (hm:m<ops.size)
  (hq:∀i,i<m→loudB orc ops i=false∧∃β C',res[i]?=some β∧AllP C'∧(headOne P orc dec ops (oldEnv ops (masks ops ops.size) i ρ) [] res i=some (β,C')∨headOne P orc dec ops (oldEnv ops (masks ops ops.size) i ρ) H res i=some (β,C')))
  (hd:∀j,j<ops.size→j=m∨j<m∨bitB (masks ops ops.size) j m=true)
  (fin:∀(K:Act→World→Prop) a w M φ ξ,Core P b M φ ξ H w→EnvR P M φ (opEnv ops (masks ops ops.size) ρ res m) a.tmps→a.defers=b.ds→wpOp P ops (kwp P R k) m K a w) :
  ∀(fuel:Nat) (listed:Array Bool) (ord:List Nat) (a:Act) (w:World),ord.length+fuel=ops.size→(∀i∈ord,i<m)→Inv2 P fn b orc ops ρ [H] res listed ord 0 a w→wpAny P .any ops (kwp P R k) fuel listed a w:=by
 intro fuel
 induction fuel with
 | zero =>
  intro listed ord a w hln hlt inv
  exfalso
  have:=nodup_lt (l:=ord) (m:=m) inv.nd hlt
  omega
 | succ fuel ih =>
  intro listed ord a w hln hlt inv
  have some':∃i,i∈Region.ready .any ops listed:=by
   have:∃i,i<ops.size∧i ∉ ord:=by
    rcases Decidable.em (∃i,i<ops.size∧i ∉ ord) with h|h
    ·exact h
    ·exfalso
     have:=nodup_ge (l:=ord) (m:=ops.size) fun j hj=>Decidable.byContradiction fun hn=>h ⟨j,hj,hn⟩
     omega
   obtain ⟨i,hi,hn⟩:=this
   induction i using Nat.strongRecOn with
   | _ i ih2 =>
    by_cases hd:∃j,depB ops i j=true∧j ∉ ord
    ·obtain ⟨j,hj,hjn⟩:=hd
     have:=ok.back i j hj
     exact ih2 j this (by omega) hjn
    ·refine ⟨i,mem_ready.2 ⟨?_,ops[i],Array.getElem?_eq_getElem hi,fun e he hb=>?_⟩⟩
     ·have hsz:i<listed.size:=by rw [inv.sz];exact hi
      cases hv:listed.getD i true with
      | false=>rfl
      | true =>
       exfalso
       refine hn ((inv.mem i).2 ⟨hi,?_⟩)
       simp [Array.getD,hsz] at hv⊢
       exact hv
     ·have hdep:depB ops i e.on=true:=by
       unfold depB
       simp only [Array.getElem?_eq_getElem hi]
       exact Array.any_eq_true'.2 ⟨e,he,by simp [hb]⟩
      have:e.on∈ord:=Decidable.byContradiction fun hn=>hd ⟨e.on,hdep,hn⟩
      exact ((inv.mem _).1 this).2
  refine ⟨fun h0=>?_,fun i hi=>?_⟩
  ·obtain ⟨i,hi⟩:=some'
   rw [h0] at hi
   cases hi
  ·obtain ⟨h0,o,ho,hrd⟩:=mem_ready.1 hi
   have hin:=(Array.getElem?_eq_some_iff.1 ho).1
   have hdep:∀j,depB ops i j=true→j∈ord:=by
    intro j hj
    obtain ⟨o',ho',e,he,hb,rfl⟩:=depB_spec hj
    rw [ho] at ho'
    obtain rfl:=inj ho'
    exact (inv.mem _).2 ⟨by have:=ok.back i e.on hj;omega,hrd e he hb⟩
   have hni:i ∉ ord:=fun h=>by
    have h1:=((inv.mem i).1 h).2
    have hsz:i<listed.size:=by rw [inv.sz];exact hin
    simp [Array.getD,hsz] at h0 h1
    rw [h0] at h1
    cases h1
   have clos:∀j,bitB (masks ops ops.size) i j=true→j∈ord:=fun j hj=>mask_in inv.closed hin hdep hj
   have closO:∀j∈ord,bitB (masks ops ops.size) j i=true→False:=fun j hj hb=>hni (mask_in inv.closed ((inv.mem j).1 hj).1 (inv.closed j hj) hb)
   obtain ⟨M,φ,ξ,Hk,e0,g1,g2,g3⟩:=inv.st
   have henv:EnvR P M φ (resEnv ops i res 0++oldEnv ops (masks ops ops.size) i ρ) a.tmps:=by
    intro t α ht
    rw [look_app] at ht
    cases hx:look (resEnv ops i res 0) t with
    | some γ =>
     rw [hx] at ht
     simp only [injEq] at ht
     subst ht
     obtain ⟨q,h4,h5,h6⟩:=look_resEnv hx
     rw [Nat.zero_add] at h5 h6
     exact g3 q (hdep q h6) t γ h5 h4
    | none =>
     rw [hx] at ht
     obtain ⟨k1,k2⟩:=look_old ht
     exact g2 t α k1 fun j hj hd=>closO j hj (k2 j ((inv.mem j).1 hj).1 hd)
   have hdst:dstOf ops i=o.dst:=by simp [dstOf,ho]
   -- the state behind it
   have step:∀(β:AVal) (v:Value) (M':Fz) (φ':Nat→Value) (ξ':Nat→Option Nat) (w':World) (k2:Nat) (H2:AStore),res[i]?=some β→([H]:List AStore)[k2]?=some H2→(∀j,j<ops.size→loudB orc ops j=true→(j∈i::ord↔cntL orc ops j<k2))→Core P b M' φ' ξ' H2 w'→M.le M'→(∀t α,look ρ t=some α→∀l∈α.labs,φ' l=φ l)→(∀j∈ord,∀α,res[j]?=some α→∀l∈α.labs,φ' l=φ l)→RelV P M' φ' β v →
     Inv2 P fn b orc ops ρ [H] res (listed.setIfInBounds i true) (i::ord) k2 (a.put o.dst v) w':=by
    intro β v M' φ' ξ' w' k2 H2 hβ hH2 hld c1 c2 c4 c5 c3
    refine ⟨by simp [inv.sz],List.nodup_cons.2 ⟨hni,inv.nd⟩,fun j=>?_,fun j hj q hq=>?_,hld,by rw [put_size];exact inv.tm,by rw [put_defers];exact inv.df,M',φ',ξ',H2,hH2,c1,fun t α ht hne=>?_,fun j hj d α hd hα=>?_⟩
    ·rw [List.mem_cons,inv.mem j]
     have hsz:i<listed.size:=by rw [inv.sz];exact hin
     by_cases e:j=i
     ·subst e
      simp [Array.getD,hsz,hin]
     ·have e':¬i=j:=fun h=>e h.symm
      have hs:(listed.setIfInBounds i true).getD j false=listed.getD j false:=by
       rw [Array.getD_eq_getD_getElem?,Array.getD_eq_getD_getElem?,Array.getElem?_setIfInBounds_ne e']
      rw [hs]
      simp [e]
    ·rcases List.mem_cons.1 hj with rfl|hj
     ·exact List.mem_cons_of_mem _ (hdep q hq)
     ·exact List.mem_cons_of_mem _ (inv.closed j hj q hq)
    ·obtain ⟨u,h1,h2⟩:=g2 t α ht fun j hj=>hne j (List.mem_cons_of_mem _ hj)
     refine ⟨u,?_,relV_mono c2 (relV_labs (c4 t α ht) h2)⟩
     rw [put_get (hdst▸hne i (List.mem_cons_self ..))]
     exact h1
    ·rcases List.mem_cons.1 hj with rfl|hj
     ·rw [hβ] at hα
      obtain rfl:=inj hα
      refine ⟨v,?_,c3⟩
      rw [← hdst,hd]
      have:=ok.dlt j d hd
      simp [Act.put,inv.tm,← hnt,this]
     ·obtain ⟨u,h1,h2⟩:=g3 j hj d α hd hα
      refine ⟨u,?_,relV_mono c2 (relV_labs (c5 j hj α hα) h2)⟩
      have hne:o.dst≠some d:=by
       rw [← hdst]
       intro e
       rcases Nat.lt_trichotomy i j with h|h|h
       ·exact ok.dd j i d h hd e
       ·subst h;exact hni hj
       ·exact ok.dd i j d h e hd
      rw [put_get hne]
      exact h1
   have hln':(i::ord).length+fuel=ops.size:=by simp;omega
   rcases hd i hin with e|e|e
   ·subst e
    refine fin _ a w M φ ξ ?_ henv inv.df
    have e:some H=some Hk:=e0
    obtain rfl:=inj e
    exact g1
   ·have hloud:=(hq i e).1
    obtain ⟨β,C',r1,r3,r2⟩:=(hq i e).2
    obtain rfl:H=Hk:=inj e0
    have hld:∀j,j<ops.size→loudB orc ops j=true→(j∈i::ord↔cntL orc ops j<0):=fun j hj hlj=>by
     refine ⟨fun h=>?_,fun h=>by omega⟩
     have hjm:j<m:=by
      rcases List.mem_cons.1 h with rfl|h
      ·assumption
      ·exact hlt j h
     rw [(hq j hjm).1] at hlj
     cases hlj
    have kk0:([H]:List AStore)[0]?=some H:=rfl
    unfold wpOp
    simp only [ho]
    have hone:∃o,ops[i]?=some o∧((Region.wanted o (yielded ops a.tmps)=false∧β=.undef)∨(Region.wanted o (yielded ops a.tmps)=true∧Yld P o a w fun v w'=>∃M',Core P b M' φ ξ H w'∧M.le M'∧RelV P M' φ β v)):=by
     rcases r2 with r2|r2
     ·exact headOne_free g1 henv r2 r3
     ·exact headOne_ok g1 henv r2 r3
    obtain ⟨o',ho',hcase⟩:=hone
    rw [ho] at ho'
    obtain rfl:=inj ho'
    have st:∀(v:Value) (M':Fz) (w':World),Core P b M' φ ξ H w'→M.le M'→RelV P M' φ β v→wpAny P .any ops (kwp P R k) fuel (listed.setIfInBounds i true) (a.put o.dst v) w':=fun v M' w' c1 c2 c3 =>
     ih _ (i::ord) _ w' hln' (List.forall_mem_cons.2 ⟨e,hlt⟩) (step β v M' φ ξ w' 0 H r1 kk0 hld c1 c2 (fun _ _ _ _ _=>rfl) (fun _ _ _ _ _ _=>rfl) c3)
    rcases hcase with ⟨hw,rfl⟩|⟨hw,hy⟩
    ·simp only [hw,Bool.false_eq_true,if_false]
     exact st undef M w g1 (Fz.le_refl _) rfl
    ·simp only [hw,if_true]
     left
     unfold Oper.wp
     rcases hy with ⟨v,w',h1,M',h2,h3,h4⟩|⟨w',h1,M',h2,h3,h4⟩|⟨f,args,h1,h2⟩
     ·rw [h1]
      simp only [Oper.upon_value]
      exact st v M' w' h2 h3 h4
     ·rw [h1]
      simp only [Oper.upon_skip]
      exact st undef M' w' h2 h3 h4
     ·rw [h1]
      simp only [Oper.upon_enter]
      refine h2.mono ?_
      rintro e w' ⟨v,rfl,M',h2,h3,h4⟩
      exact st v M' w' h2 h3 h4
   ·exact absurd (hlt m (clos m e)) (by omega)
def evPG (P:Program) (n0 nt:Nat) (orc:List (Nat×Orc)) (dec:List (Nat×Bool)) (L0 m:Nat) (ps:List PSh) (sg:List Nat) (pv:Value) (ops:Array Oper) (ρ:AEnv) (H:AStore):Option (List Prop) :=
 match mainE P n0 orc dec L0 ops (masks ops ops.size) ρ H m with
 | some (res,_,C1)=>if Nat.blt m ops.size&&(List.range m).all (fun i=>!loudB orc ops i)&&(List.range ops.size).all (fun j=>Nat.ble j m||bitB (masks ops ops.size) j m)&&plan2 (ops.size+1) orc L0 nt ops (masks ops ops.size) ρ res then
   match ops[m]? with
   | some o=>match gdE ops o (opEnv ops (masks ops ops.size) ρ res m) with
    | some true=>match o.op with
     | .call ⟨.value fx,xs,ts⟩=>match evA P (opEnv ops (masks ops ops.size) ρ res m) 0 fx,evL P (opEnv ops (masks ops ops.size) ρ res m) (ts.toList.zip xs.toList) with
      | some (.clo f caps),some l=>if Nat.beq ts.toList.length xs.toList.length then match argML P sg (remLs sg H) ps (l++caps),pickM sg sg 0 H with
       | some (l',_,C),some Hi=>if nodB sg&&nodB ((remLs sg H).map Prod.fst)&&Nat.ble n0 (L0+20*m)&&ltB (L0+20*m) (storeLabs H) then some (C1++(C++[Pan P f sg.length l' Hi pv])) else none
       | _,_=>none
       else none
      | _,_=>none
     | _=>none
    | _=>none
   | none=>none
  else none
 | none=>none
theorem rgPG {c:Code} {C:List Prop} (m:Nat) (orc:List (Nat×Orc)) (dec:List (Nat×Bool)) (L0:Nat) (ps:List PSh) (sg:List Nat) (pv:Value) (hmx:P.follows .mixedOrders=true) (hc:Code.kind c=.region ops true) (h:evPG P n0 fn.ntmps orc dec L0 m ps sg pv ops ρ H=some C) (hC:AllP C)
  (hr:∀a w,St P b [] [] a.tmps w→a.defers=b.ds→R (.panic [{ v:=pv,recovered:=false }]) a w):Run P fn b R (.code c::k) ρ H:=by
 cases c<;>simp [Code.kind] at hc
 rename_i ops' _
 obtain ⟨e1,e2⟩:=hc
 subst e2
 have e1:=e1.symm
 subst e1
 unfold evPG at h
 split at h
 ·rename_i res Hs C1 h1
  split at h
  ·rename_i hh
   simp only [Bool.and_eq_true] at hh
   obtain ⟨⟨⟨p1,p2⟩,p3⟩,p4⟩:=hh
   have ok:=plan2_ok p4
   have hm:m<ops.size:=by simpa [Nat.blt_eq] using p1
   have p2:∀i,i<m→loudB orc ops i=false:=by
    simp only [List.all_eq_true,List.mem_range] at p2
    exact fun i hi=>by simpa using p2 i hi
   have p3:∀j,j<ops.size→j=m∨j<m∨bitB (masks ops ops.size) j m=true:=by
    simp only [List.all_eq_true,List.mem_range,Bool.or_eq_true] at p3
    intro j hj
    rcases p3 j hj with q|q
    ·have:=Nat.le_of_ble_eq_true q
     omega
    ·exact .inr (.inr q)
   have c0:∀i,i≤m→cntL orc ops i=0:=by
    intro i hi
    rcases Nat.eq_zero_or_pos (cntL orc ops i) with z|z
    ·exact z
    ·obtain ⟨j,h1,h2,h3⟩:=cntL_ex z
     rw [p2 j (by omega)] at h2
     cases h2
   split at h
   ·rename_i o ho
    split at h
    ·rename_i hg
     split at h
     ·rename_i fx xs ts hop
      split at h
      ·rename_i f caps l hf hl
       split at h
       ·rename_i ht
        split at h
        ·rename_i l' z C2 Hi ha hp
         split at h
         ·rename_i hh
          simp only [Bool.and_eq_true] at hh
          obtain ⟨⟨⟨k1,k2⟩,k3⟩,k4⟩:=hh
          simp only [injEq] at h
          subst h
          obtain ⟨a1,a2⟩:=AllP.app hC
          obtain ⟨a3,a4,_⟩:=AllP.app a2
          obtain ⟨m1,m2,m3,m4,m5⟩:=main_ok ok.back h1 a1
          have quiet:∀i,i<m→loudB orc ops i=false∧∃β C',res[i]?=some β∧AllP C'∧(headOne P orc dec ops (oldEnv ops (masks ops ops.size) i ρ) [] res i=some (β,C')∨headOne P orc dec ops (oldEnv ops (masks ops ops.size) i ρ) H res i=some (β,C')):=by
           intro i hi
           obtain ⟨β,H1,C',q1,q2,q3,q4⟩:=m5 i hi (p2 i hi)
           rw [c0 i (by omega),m3] at q2
           obtain rfl:=inj q2
           unfold quietAt at q3
           split at q3
           ·rename_i r hr
            simp only [injEq] at q3
            subst q3
            exact ⟨p2 i hi,β,C',q1,q4,.inl hr⟩
           ·exact ⟨p2 i hi,β,C',q1,q4,.inr q3⟩
          intro a w g1 g2 g3
          refine wp_region_any hmx ?_
          refine any_pan (b:=b) rfl ok hm quiet p3 (fun K a w M φ ξ q1 q2 g3=>?_) _ _ [] a _ (by simp) (fun i hi=>by cases hi) ?_
          ·unfold wpOp
           rw [ho]
           simp only
           rw [if_pos (gdE_ok q2 hg)]
           left
           have hu:=evA_ok q2 hf
           have hv:=evL_ok q2 hl
           rw [zip_map a.eval _ _ (Nat.eq_of_beq_eq_true ht)] at hv
           have e2:xs.map a.eval=(xs.toList.map a.eval).toArray:=by apply Array.ext';simp
           obtain ⟨us,e,hr2⟩:=hu
           have en:(execOp a.eval o).run P w=.ok (.enter f ((xs.toList.map a.eval).toArray++us.toArray)) w:=by
            obtain ⟨od,oo,oty,op2,oa,og⟩:=o
            simp only at hop
            subst hop
            simp only [execOp,resolve,e,Deferred.ofValue,Sem.run_bind,Sem.run_pure,Result.andThen_ok,invoke]
            rw [e2,Array.empty_append]
            exact a4.1 _ _
           have:=call_mutG q1 ha a3 hp (relVs_app hv hr2) a4 (β:=.undef) (Ho:=[]) (K:=L0+20*m) (nodB_ok k1) rfl rfl (fun _=>rfl) (by simpa [outH] using nodB_ok k2) (Nat.le_of_ble_eq_true k3) (fun L hL=>ltB_mem k4 L hL)
           unfold Oper.wp
           rw [en,Oper.upon_enter]
           have e3:(xs.toList.map a.eval).toArray++us.toArray=(xs.toList.map a.eval++us).toArray:=by simp
           rw [e3]
           refine this.mono ?_
           rintro e w' ⟨M',φ',ξ',v,rfl,c1,c2,c3,c4⟩
           exact kwp_panic (hr a w' ⟨M',φ',ξ',c1.sub (List.nil_sublist _),fun t α h=>by cases h⟩ g3)
          ·obtain ⟨M,φ,ξ,q1,q2⟩:=g1
           refine ⟨by simp,List.nodup_nil,fun i=>?_,fun i hi=>(by cases hi),fun j _ _=>⟨fun h=>(by cases h),fun h=>(by omega)⟩,g2,g3,M,φ,ξ,_,rfl,q1.draws 1,fun t α ht _=>q2 t α ht,fun i hi=>(by cases hi)⟩
           simp [Array.getD]
         ·cases h
        ·cases h
       ·cases h
      ·cases h
     ·cases h
    ·cases h
   ·cases h
  ·cases h
 ·cases h
end
section
variable {P:Program} {fn:Func} {n0:Nat} {b:Base n0} {R:Exit→Act→World→Prop} {k:List KI} {ρ:AEnv} {H:AStore} {ops:Array Oper}
theorem core_back {n1:Nat} {M:Fz} {φ:Nat→Value} {ξ:Nat→Option Nat} {w:World} (hc:Core P b M φ ξ H w) (hn:n0≤n1) (ds:List Deferred) (M':Fz) (φ':Nat→Value) (ξ':Nat→Option Nat) (H':AStore) (w':World) (c2:Core P (⟨w,M,H.filterMap (fun x=>ξ x.1),φ,hc.over,ds⟩:Base n1) M' φ' ξ' H' w'):Core P b M' φ' ξ' H' w':=by
 have inE:∀g,g∈H.filterMap (fun x=>ξ x.1)→∃L it,(L,it)∈H∧ξ L=some g:=fun g hg=>by
  obtain ⟨x,hx,e⟩:=List.mem_filterMap.1 hg
  exact ⟨x.1,x.2,hx,e⟩
 have hbel:=c2.below
 refine ⟨Fz.le_trans hc.le c2.le,fun g hg=>(c2.same g (Nat.lt_of_lt_of_le hg hc.below.size)).trans (hc.same g hg),c2.over,hc.below.trans ⟨hbel.os,hbel.tape,hbel.output,hbel.size,fun g hg he=>hbel.block g (Nat.lt_of_lt_of_le hg hc.below.size) fun hm=>?_⟩,c2.items,fun L it g hm hg=>?_,c2.sep,c2.nd,fun L hL=>(c2.keep L (by omega)).trans (hc.keep L hL)⟩
 ·obtain ⟨L,it,q1,q2⟩:=inE g hm
  rcases (hc.feet L it g q1 q2).1 with q|q
  ·omega
  ·exact he q
 ·obtain ⟨f1,f2⟩:=c2.feet L it g hm hg
  refine ⟨?_,f2⟩
  rcases f1 with f1|f1
  ·exact .inl (Nat.le_trans hc.below.size f1)
  ·obtain ⟨L2,it2,q1,q2⟩:=inE g f1
   exact (hc.feet L2 it2 g q1 q2).1
theorem Core.more {M:Fz} {φ:Nat→Value} {ξ:Nat→Option Nat} {w w':World} (s:Core P b M φ ξ H w) (hos:w'.os=w.os) (htp:w'.tape=w.tape) (hou:w'.output=w.output) (hsz:w.heap.size≤w'.heap.size) (hk:∀k,k<w.heap.size→w'.heap[k]?=w.heap[k]?):Core P b M φ ξ H w':=by
 have lt:∀g c,M g=some c→g<w.heap.size:=fun g c h=>by
  obtain ⟨t,fr,e⟩:=s.over g c h
  exact (Array.getElem?_eq_some_iff.1 e).1
 exact ⟨s.le,s.same,s.over' fun g c h=>hk g (lt g c h),s.below.trans ⟨hos,htp,hou,hsz,fun k hkk _=>hk k (Nat.lt_of_lt_of_le hkk s.below.size)⟩,fun l i hi=>held_kept (Fz.le_refl _) (s.items l i hi) fun g hg=>hk g (held_lt (s.items l i hi) g hg),s.feet,s.sep,s.nd,s.keep⟩
structure DefI (P:Program) {n0 n1:Nat} (b0:Base n0) (b:Base n1) (g:FuncId) (caps:List AVal):Prop where
 us:∃us:List Value,b.ds=[⟨.fn (.func g) us.toArray,#[]⟩]∧RelVs P b.M b.φ0 caps us
 back:∀M φ ξ H w,Core P b M φ ξ H w→Core P b0 M φ ξ H w
def defOf (P:Program) (ops:Array Oper) (m:Nat) (ρ:AEnv):Option (FuncId×List AVal) :=
 match ops[m]? with
 | some ⟨none,.defer ⟨.value fx,xs,_⟩,_,_,_,none⟩=>if Nat.beq xs.size 0 then match evA P ρ 0 fx with
  | some (.clo g caps)=>some (g,caps)
  | _=>none
  else none
 | _=>none
theorem run_defer {c:Code} {C:List Prop} {ρ1:AEnv} {H1:AStore} {g:FuncId} {caps:List AVal} (n1 m L0:Nat) (hb:b.ds=[]) (hc:Code.kind c=.region ops false) (he:evOps P n0 fn.ntmps [] [] L0 ops (List.range m) ρ H=some (ρ1,H1,C)) (hC:AllP C) (hs:Nat.beq ops.size (m+1)=true) (hd:defOf P ops m ρ1=some (g,caps)) (hn:Nat.ble n0 n1=true)
  (h:∀b':Base n1,DefI P b b' g caps→Run P fn b' R k ρ1 H1):Run P fn b R (.code c::k) ρ H:=by
 cases c<;>simp [Code.kind] at hc
 obtain ⟨e9,rfl⟩:=hc
 rw [e9]
 have hs:=Nat.eq_of_beq_eq_true hs
 have hn:=Nat.le_of_ble_eq_true hn
 have er:List.range ops.size=List.range m++[m]:=by rw [hs,List.range_succ]
 have main:Run P fn b R (.ops ops [m]::k) ρ1 H1:=by
  intro a w g1 g2 g3
  obtain ⟨M,φ,ξ,q1,q2⟩:=g1
  show wpOps P ops (kwp P R k) [m] a w
  unfold defOf at hd
  split at hd
  ·rename_i fx xs ts ty pos aft ho
   split at hd
   ·rename_i hx
    have hx:=Nat.eq_of_beq_eq_true hx
    obtain rfl:xs=#[]:=Array.eq_empty_of_size_eq_zero hx
    split at hd
    ·rename_i g' caps' hf
     simp only [injEq,Prod.mk.injEq] at hd
     obtain ⟨rfl,rfl⟩:=hd
     obtain ⟨us,e,hr⟩:=evA_ok q2 hf
     unfold wpOps
     rw [ho]
     simp only [Region.wanted]
     first|rw [if_pos trivial]|rw [if_pos rfl]
     left
     have en:(execOp a.eval ⟨none,.defer ⟨.value fx,#[],ts⟩,ty,pos,aft,none⟩).run P w=.ok (.defer ⟨.fn (.func g') us.toArray,#[]⟩) w:=by
      simp only [execOp,resolve,e,Deferred.ofValue,Sem.run_bind,Sem.run_pure,Result.andThen_ok]
      simp
     show Oper.upon P _ a _ _ _
     rw [en,Oper.upon_defer]
     show kwp P R k .normal _ w
     let b':Base n1:=⟨w,M,H1.filterMap (fun x=>ξ x.1),φ,q1.over,[⟨.fn (.func g') us.toArray,#[]⟩]⟩
     have c0:Core P b' M φ ξ H1 w:=⟨Fz.le_refl _,fun _ _=>rfl,q1.over,BelowX.refl _ _ _,q1.items,fun L it g hi hg=>⟨.inr (List.mem_filterMap.2 ⟨_,hi,hg⟩),(q1.feet L it g hi hg).2⟩,q1.sep,q1.nd,fun _ _=>rfl⟩
     refine h b' ⟨⟨us,rfl,hr⟩,fun M' φ' ξ' H' w' c2=>core_back q1 hn _ M' φ' ξ' H' w' c2⟩ _ w ⟨M,φ,ξ,c0,q2⟩ g2 ?_
     show _::a.defers=_
     rw [g3,hb]
    ·cases hd
   ·cases hd
  ·cases hd
 intro a w g1 g2 g3
 refine wp_region ?_
 rw [er]
 exact run_opsA he hC main a w g1 g2 g3
def evDf (P:Program) (n0 nt L0 m:Nat) (ls lh:List Nat) (ops:Array Oper) (ρ:AEnv) (H:AStore):Option (AEnv×AStore×FuncId×List AVal×List Prop) :=
 match evOps P n0 nt [] [] L0 ops (List.range m) ρ H with
 | some (ρ1,H1,C)=>match defOf P ops m ρ1,trimE ls ρ1,trimH lh H1 with
  | some (g,caps),some ρ',some H'=>if Nat.beq ops.size (m+1)&&nodupB lh then some (ρ',H',g,caps,C) else none
  | _,_,_=>none
 | none=>none
theorem rgD {c:Code} {C:List Prop} {g:FuncId} {caps:List AVal} (n1:Nat) (ρ':AEnv) (H':AStore) (L0 m:Nat) (hb:b.ds=[]) (hc:Code.kind c=.region ops false) (h:evDf P n0 fn.ntmps L0 m (ρ'.map Prod.fst) (H'.map Prod.fst) ops ρ H=some (ρ',H',g,caps,C)) (hC:AllP C) (hn:Nat.ble n0 n1=true)
  (hr:∀b':Base n1,DefI P b b' g caps→Run P fn b' R k ρ' H'):Run P fn b R (.code c::k) ρ H:=by
 unfold evDf at h
 split at h
 ·rename_i ρ1 H1 C1 h1
  split at h
  ·rename_i q1 q2 q3 h2 h3 h4
   split at h
   ·rename_i hh
    rw [Bool.and_eq_true] at hh
    simp only [injEq,Prod.mk.injEq] at h
    obtain ⟨rfl,rfl,rfl,rfl,rfl⟩:=h
    exact run_defer n1 m L0 hb hc h1 hC hh.1 h2 hn fun b' D=>run_trim _ _ h3 h4 hh.2 (hr b' D)
   ·cases h
  ·cases h
 ·cases h
theorem dec0 {P:Program} {g:FuncId} {us:List Value} {w:World} (he:Enters P g):(invoke (.fn (.func g) us.toArray) #[]).run P w=.ok (.enter g us.toArray) w:=by
 simp only [invoke,Array.empty_append]
 exact he _ _
def Def0 (P:Program) (g:FuncId) (n:Nat):Prop:=∀(us:List Value) (w:World),us.length=n→CallsD P g us.toArray .returning w fun e u' w'=>(∃v,e=.returned v)∧u'=.returning∧w'=w
def Def1 (P:Program) {n1:Nat} (b:Base n1) (g:FuncId) (caps:List AVal) (pv:Value) (H Hn:AStore):Prop:=∀M φ ξ w (us:List Value),Core P b M φ ξ H w→RelVs P M φ caps us→CallsD P g us.toArray (.panicking [{ v:=pv,recovered:=false }]) w fun e u' w'=>(∃v,e=.returned v)∧u'=.panicking [{ v:=pv,recovered:=true }]∧∃M' φ' ξ',Core P b M' φ' ξ' Hn w'
def ptrsB (n:Nat):AEnv→Bool
 | []=>true
 | (_,.ptr L _ _)::ρ=>Nat.blt L n&&ptrsB n ρ
 | _=>false
end
section
variable {P:Program} {fn:Func} {n0 n1:Nat} {b0:Base n0} {b:Base n1} {k:List KI} {ρ:AEnv} {H:AStore}
theorem run_retD {c:Code} {q:List AVal} {Q:Exit→Act→World→Prop} (hc:Code.kind c=.ret) (hq:resAs P ρ H fn.results.toList=some q) (h:∀M φ ξ a w v,Core P b M φ ξ H w→RelV P M φ (one q) v→a.defers=b.ds→(results fn a.tmps).run P w=.ok v w→Q .ret a w):Run P fn b Q (.code c::k) ρ H:=by
 cases c<;>simp [Code.kind] at hc
 intro a w g1 g2 g3
 obtain ⟨M,φ,ξ,k1,k2⟩:=g1
 obtain ⟨v,h1,h2⟩:=results_ok k1 k2 hq
 exact wp_ret (kwp_ret (h M φ ξ a w v k1 h2 g3 h1))
theorem ret_mutD {c:Code} {q:List AVal} {β:AVal} {Ho:AStore} {g:FuncId} {caps:List AVal} (D:DefI P b0 b g caps) (he:Enters P g) (D0:Def0 P g caps.length) (ss:List (Option Sh)) (lh:List Nat) (hc:Code.kind c=.ret) (hb:one q=β) (hq:resM P ρ H fn.results.toList ss=some q) (hn:nodupB lh=true) (hh:trimH lh H=some Ho):Run P fn b (bodyPostD P fn (MutR P b0 β Ho)) (.code c::k) ρ H:=by
 subst hb
 unfold resM at hq
 split at hq
 ·rename_i q0 h1
  obtain ⟨k1,k2⟩:=trimH_ok hh
  refine run_retD hc h1 fun M φ ξ a w v hc hv hd hr=>?_
  obtain ⟨us,e1,e2⟩:=D.us
  show Leaves P fn a.tmps _ a.defers .returning w
  rw [hd,e1]
  refine leaves_cons (by simp) (dec0 he) ((D0 us w (relVs_len e2)).mono ?_)
  rintro e u' w' ⟨⟨v',rfl⟩,rfl,rfl⟩
  exact ⟨v,hr,M,φ,ξ,v,rfl,D.back _ _ _ _ _ (hc.pick (by rw [k1];exact nodupB_ok hn) k2),oneM_ok hq hv⟩
 ·cases hq
theorem ptrs_ok {M M':Fz} {φ φ':Nat→Value} {tmps:Array Value} (hφ:∀L,L<n1→φ' L=φ L) (hp:ptrsB n1 ρ=true) (he:EnvR P M φ ρ tmps):EnvR P M' φ' ρ tmps:=by
 have key:∀{ρ:AEnv},ptrsB n1 ρ=true→∀t α,look ρ t=some α→∃L p off,α=.ptr L p off∧L<n1:=by
  intro ρ
  induction ρ with
  | nil=>intro _ t α h;simp [look] at h
  | cons x ρ ih =>
   intro h t α ht
   obtain ⟨t0,β⟩:=x
   cases β<;>simp [ptrsB] at h
   rename_i L p off
   simp only [look] at ht
   split at ht
   ·simp only [injEq] at ht
    exact ⟨L,p,off,ht.symm,h.1⟩
   ·exact ih h.2 t α ht
 intro t α ht
 obtain ⟨L,p,off,rfl,hL⟩:=key hp t α ht
 obtain ⟨v,h1,g,h2,h3⟩:=he t _ ht
 exact ⟨v,h1,g,by rw [hφ L hL];exact h2,h3⟩
theorem pan_mutD {pv:Value} {Hn:AStore} {q:List AVal} {β:AVal} {Ho:AStore} {g:FuncId} {caps:List AVal} (D:DefI P b0 b g caps) (he:Enters P g) (D1:Def1 P b g caps pv H Hn) (ss:List (Option Sh)) (lh:List Nat) (hl:ltB n1 (AVal.labsL caps)=true) (hp:ptrsB n1 ρ=true) (hb:one q=β) (hq:resM P ρ Hn fn.results.toList ss=some q) (hn:nodupB lh=true) (hh:trimH lh Hn=some Ho):∀a w,St P b ρ H a.tmps w→a.defers=b.ds→bodyPostD P fn (MutR P b0 β Ho) (.panic [{ v:=pv,recovered:=false }]) a w:=by
 subst hb
 unfold resM at hq
 split at hq
 ·rename_i q0 h1
  obtain ⟨k1,k2⟩:=trimH_ok hh
  intro a w ⟨M,φ,ξ,hc,hr⟩ hd
  obtain ⟨us,e1,e2⟩:=D.us
  show Leaves P fn a.tmps _ a.defers _ w
  rw [hd,e1]
  have lt:=ltB_mem hl
  have e3:RelVs P M φ caps us:=relVs_labs (fun L hL=>hc.keep L (lt L hL)) (relVs_mono hc.le e2)
  refine leaves_cons (by simp) (dec0 he) ((D1 M φ ξ w us hc e3).mono ?_)
  rintro e u' w' ⟨⟨v',rfl⟩,rfl,M',φ',ξ',hc'⟩
  obtain ⟨v,h3,h4⟩:=results_ok hc' (ptrs_ok (fun L hL=>(hc'.keep L hL).trans (hc.keep L hL).symm) hp hr) h1
  exact ⟨v,h3,M',φ',ξ',v,rfl,D.back _ _ _ _ _ (hc'.pick (by rw [k1];exact nodupB_ok hn) k2),oneM_ok hq h4⟩
 ·cases hq
theorem mutD_of_run {f:FuncId} {fn:Func} {c:Code} {n0:Nat} {l:List AVal} {Hi:AStore} {β:AVal} {Ho:AStore} (h0:Enters P f) (hf:P.funcs[f]?=some fn) (hb:fn.body=some c) (hn:Nat.ble l.length fn.ntmps=true)
  (h:∀b:Base n0,b.ds=[]→Run P fn b (bodyPostD P fn (MutR P b β Ho)) [.code c] (slots l 0) Hi):Mut P f n0 l Hi β Ho:=by
 refine ⟨h0,?_⟩
 intro b ξ us hc hr
 have hl:=relVs_len hr
 have hn:=Nat.le_of_ble_eq_true hn
 refine (calls_of_wp_defers hf hb (h ⟨b.w,b.M,b.E,b.φ0,b.ok,[]⟩ rfl _ _ ⟨b.M,b.φ0,ξ,hc.ds [],?_⟩ ?_ rfl)).mono fun e w' ⟨M',φ',ξ',v,q1,q2,q3⟩=>⟨M',φ',ξ',v,q1,q2.undo,q3⟩
 ·refine slots_ok hr fun j u hj=>?_
  have hlt:=(List.getElem?_eq_some_iff.1 hj).1
  rw [Nat.zero_add,Array.getElem?_append_left (by simpa using hlt)]
  simpa using hj
 ·simp
  omega
variable {R:Exit→Act→World→Prop} {ops:Array Oper}
def evPD (P:Program) (n0 nt:Nat) (ls lh:List Nat) (orc:List (Nat×Orc)) (dec:List (Nat×Bool)) (L0 m:Nat) (ps:List PSh) (sg:List Nat) (pv:Value) (ops:Array Oper) (ρ:AEnv) (H:AStore):Option (AEnv×AStore×List Prop) :=
 match evOps P n0 nt orc dec L0 ops (List.range m) ρ H with
 | some (ρ1,H1,C1)=>match ops[m]? with
  | some o=>match gdE ops o ρ1 with
   | some true=>match o.op with
    | .call ⟨.value fx,xs,ts⟩=>match evA P ρ1 0 fx,evL P ρ1 (ts.toList.zip xs.toList) with
     | some (.clo f caps),some l=>if Nat.beq ts.toList.length xs.toList.length then match argML P sg (remLs sg H1) ps (l++caps),pickM sg sg 0 H1 with
      | some (l',_,C),some Hi=>if nodB sg&&nodB ((remLs sg H1).map Prod.fst)&&Nat.ble n0 (L0+20*m)&&ltB (L0+20*m) (storeLabs H1)&&ltB (L0+20*m) (envLabs ρ1)&&nodupB lh then match trimE ls ρ1,trimH lh (remLs sg H1) with
       | some ρ',some H'=>some (ρ',H',C1++(C++[Pan P f sg.length l' Hi pv]))
       | _,_=>none
       else none
      | _,_=>none
      else none
     | _,_=>none
    | _=>none
   | _=>none
  | none=>none
 | none=>none
theorem rgPD {c:Code} {C:List Prop} (ρ':AEnv) (H':AStore) (m:Nat) (orc:List (Nat×Orc)) (dec:List (Nat×Bool)) (L0:Nat) (ps:List PSh) (sg:List Nat) (pv:Value) (hc:Code.kind c=.region ops false) (h:evPD P n1 fn.ntmps (ρ'.map Prod.fst) (H'.map Prod.fst) orc dec L0 m ps sg pv ops ρ H=some (ρ',H',C)) (hC:AllP C)
  (hr:∀a w,St P b ρ' H' a.tmps w→a.defers=b.ds→R (.panic [{ v:=pv,recovered:=false }]) a w):Run P fn b R (.code c::k) ρ H:=by
 cases c<;>simp [Code.kind] at hc
 obtain ⟨e9,rfl⟩:=hc
 rw [e9]
 unfold evPD at h
 split at h
 ·rename_i ρ1 H1 C1 h1
  split at h
  ·rename_i o ho
   split at h
   ·rename_i hg
    split at h
    ·rename_i fx xs ts hop
     split at h
     ·rename_i f caps l hf hl
      split at h
      ·rename_i ht
       split at h
       ·rename_i l' z C2 Hi ha hp
        split at h
        ·rename_i hh
         simp only [Bool.and_eq_true] at hh
         obtain ⟨⟨⟨⟨⟨k1,k2⟩,k3⟩,k4⟩,k5⟩,k6⟩:=hh
         split at h
         case h_2=>cases h
         rename_i t1 t2 ht1 ht2
         simp only [injEq,Prod.mk.injEq] at h
         obtain ⟨rfl,rfl,rfl⟩:=h
         obtain ⟨a1,a2⟩:=AllP.app hC
         obtain ⟨a3,a4,_⟩:=AllP.app a2
         have hm:m<ops.size:=(Array.getElem?_eq_some_iff.1 ho).1
         obtain ⟨r,er⟩:=range_at hm
         have main:Run P fn b R (.ops ops (m::r)::k) ρ1 H1:=by
          intro a w g1 g2 g3
          obtain ⟨M,φ,ξ,q1,q2⟩:=g1
          show wpOps P ops (kwp P R k) (m::r) a w
          unfold wpOps
          rw [ho]
          simp only
          rw [if_pos (gdE_ok q2 hg)]
          left
          have hu:=evA_ok q2 hf
          have hv:=evL_ok q2 hl
          rw [zip_map a.eval _ _ (Nat.eq_of_beq_eq_true ht)] at hv
          have e2:xs.map a.eval=(xs.toList.map a.eval).toArray:=by apply Array.ext';simp
          obtain ⟨us,e,hr2⟩:=hu
          have en:(execOp a.eval o).run P w=.ok (.enter f ((xs.toList.map a.eval).toArray++us.toArray)) w:=by
           obtain ⟨od,oo,oty,op2,oa,og⟩:=o
           simp only at hop
           subst hop
           simp only [execOp,resolve,e,Deferred.ofValue,Sem.run_bind,Sem.run_pure,Result.andThen_ok,invoke]
           rw [e2,Array.empty_append]
           exact a4.1 _ _
          have:=call_mutG q1 ha a3 hp (relVs_app hv hr2) a4 (β:=.undef) (Ho:=[]) (K:=L0+20*m) (nodB_ok k1) rfl rfl (fun _=>rfl) (by simpa [outH] using nodB_ok k2) (Nat.le_of_ble_eq_true k3) (fun L hL=>ltB_mem k4 L hL)
          show o.upon P a _ _ _
          rw [en,Oper.upon_enter]
          have e3:(xs.toList.map a.eval).toArray++us.toArray=(xs.toList.map a.eval++us).toArray:=by simp
          rw [e3]
          refine this.mono ?_
          rintro e w' ⟨M',φ',ξ',v,rfl,c1,c2,c3,c4⟩
          have c1:Core P b M' φ' ξ' (remLs sg H1) w':=by simpa [outH] using c1
          have q3:EnvR P M' φ' ρ1 a.tmps:=(q2.labs (φ':=φ') (fun L hL=>c3 L (ltB_mem k5 L hL))).mono c2
          refine kwp_panic (hr a w' (St.trim ⟨M',φ',ξ',c1,q3⟩ ht1 ht2 k6) g3)
         intro a w g1 g2 g3
         refine wp_region ?_
         rw [er]
         exact run_opsA h1 a1 main a w g1 g2 g3
        ·cases h
       ·cases h
      ·cases h
     ·cases h
    ·cases h
   ·cases h
  ·cases h
 ·cases h
end
def eiO {α:Type}:α⊕α→α
 | .inl x=>x
 | .inr x=>x
abbrev MutE (P:Program) (f:FuncId) (n0:Nat) (l:List AVal) (Hi:AStore) (o:(AVal×AStore)⊕(AVal×AStore)):Prop:=Mut P f n0 l Hi (eiO o).1 (eiO o).2
def recI (T:TypeId):Value→Option Int
 | .iface t (.agg c)=>match c.toList with
  | [.int .i64 n]=>if Nat.beq t T=true∧IntKind.i64.min≤n∧n≤IntKind.i64.max then some n else none
  | _=>none
 | _=>none
theorem recI_ok {T:TypeId} {v:Value} {n:Int} (h:recI T v=some n):v=.iface T (.agg #[.int .i64 n])∧IntKind.i64.has n:=by
 unfold recI at h
 split at h
 ·rename_i t c
  split at h
  ·rename_i m e2
   split at h
   ·rename_i e
    obtain ⟨e,e3⟩:=e
    obtain rfl:=Nat.eq_of_beq_eq_true e
    obtain rfl:=inj h
    exact ⟨by rw [← e2],e3⟩
   ·cases h
  ·cases h
 ·cases h
def recU (T:TypeId):Value→Option Unit
 | .iface t (.agg c)=>match c.toList with
  | []=>if Nat.beq t T then some () else none
  | _=>none
 | _=>none
theorem recU_ok {T:TypeId} {v:Value} {n:Unit} (h:recU T v=some n):v=.iface T (.agg #[]):=by
 unfold recU at h
 split at h
 ·rename_i t c
  split at h
  ·rename_i e2
   split at h
   ·rename_i e
    obtain rfl:=Nat.eq_of_beq_eq_true e
    rw [← e2]
   ·cases h
  ·cases h
 ·cases h
end Go.Proofs.YtglfdihomfhmmaaGreatDoor
