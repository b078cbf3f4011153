/- Laws of my own that the statement leans on; part R2. -/
import Derived.Laws.AppendOwn
import Derived.Lib.AppendStr
import Derived.MapKept
import Derived.Test.YtglfdihomfhmmaaGreatDoorR1
set_option linter.unusedVariables false
set_option linter.unusedSimpArgs false
open List (length replicate getD drop take)
open Option.some (inj injEq)
open Int (toNat)
open Go.IntKind (wrap)
namespace Go.Proofs.YtglfdihomfhmmaaGreatDoor
open Go.RowKit
def isNilC:Operand→Bool
 | .const .nilIface=>true
 | _=>false
def ifcT (P:Program) (t:TypeId):Bool:=match P.underlying t with
 | some (.interface _)=>true
 | _=>false
def boN (P:Program) (op:BinOp) (t:TypeId) (y:Operand) (α γ:AVal):PR:=match α with
 | .ifc z=>if isNilC y&&ifcT P t then match op with
   | .eql=>some (.v .bool z,[])
   | .neq=>some (.v .bool (!z),[])
   | _=>none
  else none
 | α=>boA P op t α γ
theorem eq_nilI {P:Program} {t:TypeId} (ht:ifcT P t=true) {z:Bool} {u:Value} (hu:(z=true∧u=.nilIface)∨(z=false∧∃t p,u=.iface t p)) (w:World):(Op.equal t u .nilIface).run P w=.ok z w:=by
 unfold ifcT at ht
 split at ht
 ·rename_i ms hm
  have key:∀D,(Op.equalIn (D+1) t u .nilIface).run P w=.ok z w:=by
   intro D
   rcases hu with ⟨rfl,rfl⟩|⟨rfl,t',p,rfl⟩
   ·simp [Op.equalIn,run_underlying hm]
   ·simp [Op.equalIn,run_underlying hm]
  exact key 9999
 ·cases ht
theorem boN_ok {P:Program} {M:Fz} {φ:Nat→Value} {op:BinOp} {t:TypeId} {x y:Operand} {α γ β:AVal} {C:List Prop} {u v:Value} (hu:RelV P M φ α u) (hv:RelV P M φ γ v) (hy:isNilC y=true→v=.nilIface) (h:boN P op t y α γ=some (β,C)) (hC:AllP C) (w:World):∃r,(eqN op t x y u v).run P w=.ok r w∧RelV P M φ β r:=by
 unfold boN at h
 split at h
 ·rename_i z
  split at h
  ·rename_i hh
   simp only [Bool.and_eq_true] at hh
   obtain ⟨h1,h2⟩:=hh
   obtain rfl:=hy h1
   have hc:∃c,y=.const c:=by
    unfold isNilC at h1
    split at h1
    ·exact ⟨_,rfl⟩
    ·cases h1
   obtain ⟨c,rfl⟩:=hc
   have hu:(z=true∧u=.nilIface)∨(z=false∧∃t p,u=.iface t p):=hu
   have hq:=eq_nilI h2 hu w
   have hg:∀op,(eqGuard op t x (.const c) u .nilIface).run P w=.ok () w:=by
    intro op
    rcases hu with ⟨rfl,rfl⟩|⟨rfl,t',p,rfl⟩
    ·cases op<;>simp [eqGuard]
    ·cases op<;>simp [eqGuard]
   have hb:∀op,(eqN op t x (.const c) u .nilIface).run P w=(binOp op t u .nilIface).run P w:=by
    intro op
    unfold eqN
    rw [Sem.run_bind,hg op]
    rfl
   split at h
   ·simp only [injEq,Prod.mk.injEq] at h
    obtain ⟨rfl,rfl⟩:=h
    refine ⟨_,(hb _).trans ?_,rel_bool⟩
    rcases hu with ⟨rfl,rfl⟩|⟨rfl,t',p,rfl⟩<;>simp [binOp,hq]
   ·simp only [injEq,Prod.mk.injEq] at h
    obtain ⟨rfl,rfl⟩:=h
    refine ⟨_,(hb _).trans ?_,rel_bool⟩
    rcases hu with ⟨rfl,rfl⟩|⟨rfl,t',p,rfl⟩<;>simp [binOp,hq]
   ·cases h
  ·cases h
 ·exact boA_ok hu hv h hC w
def pv (P:Program) (ρ:AEnv) (H:AStore) (ty:TypeId):Op→PR
 | .move x=>match evA P ρ ty x with|some α=>some (α,[])|none=>none
 | .assign x=>match evA P ρ ty x with|some α=>some (α,[])|none=>none
 | .pick c x y=>match evA P ρ 0 c with
  | some (.v .bool z)=>match z with
   | true=>match evA P ρ ty x with|some α=>some (α,[])|none=>none
   | false=>match evA P ρ ty y with|some α=>some (α,[])|none=>none
  | _=>none
 | .load T x=>match evA P ρ 0 x with|some α=>ldA P H T α|none=>none
 | .field T x f=>match evA P ρ T x with|some α=>fdA P T f α|none=>none
 | .fieldAddr T x f=>match evA P ρ 0 x with|some α=>faA P T f α|none=>none
 | .indexAddr T x i=>match evA P ρ 0 x,evA P ρ 0 i with|some α,some γ=>iaA P H T α γ|_,_=>none
 | .index T x i=>match evA P ρ T x,evA P ρ 0 i with|some α,some γ=>ixA P T α γ|_,_=>none
 | .binOp op t x y _=>match evA P ρ t x,evA P ρ t y with|some α,some γ=>boN P op t y α γ|_,_=>none
 | .unOp op t x=>match evA P ρ t x with|some α=>uoA op α|none=>none
 | .convert s t x=>match evA P ρ s x with|some α=>cvA P H s t α|none=>none
 | .extract x i=>match evA P ρ 0 x with
  | some (.tup l)=>match l[i]? with|some α=>some (α,[])|none=>none
  | _=>none
 | .lookup T x i ck=>match evA P ρ 0 x,evA P ρ 0 i with|some α,some κ=>lkA P H T ck α κ|_,_=>none
 | .nilCheck x=>match evA P ρ 0 x with|some α=>if okNil α then some (α,[]) else none|none=>none
 | .makeFunc (.func f) first cap=>match first.toList,evL P ρ (cap.toList.map fun x=>(0,x)) with
  | [],some l=>some (.clo f l,[])
  | _,_=>none
 | .build T ps=>match evPs P ρ (fieldT P T) ps.toList with
  | some l=>match bldT P T l with
   | some r=>if r.1.agg then some (.v r.1 r.2,[]) else none
   | none=>none
  | none=>none
 | .slice T x lo hi none=>match evA P ρ T x,evO P ρ lo,evO P ρ hi with|some α,some o1,some o2=>slR P H T α o1 o2|_,_,_=>none
 | .slice T x lo (some hi) (some mx)=>match evA P ρ T x,evO P ρ lo,evA P ρ 0 hi,evA P ρ 0 mx with|some α,some o1,some o2,some o3=>slF P H T α o1 o2 o3|_,_,_,_=>none
 | .call ⟨.builtin bi,xs,ts⟩=>match evL P ρ (ts.toList.zip xs.toList) with
  | some l=>if Nat.beq ts.size xs.size then biA P H ts.toList bi l else none
  | none=>none
 | _=>none
section
variable {P:Program} {n0:Nat} {b:Base n0} {M:Fz} {φ:Nat→Value} {ξ:Nat→Option Nat} {H:AStore} {w:World} {ρ:AEnv}
theorem evO_ok {a:Act} (he:EnvR P M φ ρ a.tmps) {x:Option Operand} {o:Option AVal} (h:evO P ρ x=some o):RelO P M φ o (x.map a.eval):=by
 cases x with
 | none=>simp only [evO,injEq] at h;subst h;trivial
 | some x =>
  simp only [evO] at h
  split at h
  ·rename_i α hα
   simp only [injEq] at h;subst h
   exact evA_ok he hα
  ·cases h
theorem evL_ok {a:Act} (he:EnvR P M φ ρ a.tmps):∀{l:List (TypeId×Operand)} {r:List AVal},evL P ρ l=some r→RelVs P M φ r (l.map fun x=>a.eval x.2)
 | [],r,h=>by simp only [evL,injEq] at h;subst h;rfl
 | (t,x)::l,r,h=>by
  simp only [evL] at h
  split at h
  ·rename_i α r' h1 h2
   simp only [injEq] at h;subst h
   exact ⟨_,_,rfl,evA_ok he h1,evL_ok he h2⟩
  ·cases h
theorem evPs_ok {a:Act} (he:EnvR P M φ ρ a.tmps) {ft:Nat→TypeId}:∀{l:List (Nat×Operand)} {r:List (Nat×AVal)},evPs P ρ ft l=some r→r.length=l.length∧∀(q:Nat) (α:Nat×AVal),r[q]?=some α→∃u,(l.map fun x=>(x.1,a.eval x.2))[q]?=some (α.1,u)∧RelV P M φ α.2 u
 | [],r,h=>by simp only [evPs,injEq] at h;subst h;exact ⟨rfl,fun q α hq=>by simp at hq⟩
 | (i,x)::l,r,h=>by
  simp only [evPs] at h
  split at h
  ·rename_i α r' h1 h2
   simp only [injEq] at h;subst h
   obtain ⟨k1,k2⟩:=evPs_ok he h2
   refine ⟨by simp [k1],fun q β hq=>?_⟩
   cases q with
   | zero=>simp at hq;subst hq;exact ⟨_,rfl,evA_ok he h1⟩
   | succ q=>simpa using k2 q β (by simpa using hq)
  ·cases h
theorem relVs_get:∀{l:List AVal} {us:List Value} {i:Nat} {α:AVal},RelVs P M φ l us→l[i]?=some α→∃u,us[i]?=some u∧RelV P M φ α u
 | [],us,i,α,_,h=>by simp at h
 | β::l,us,i,α,⟨u,r,e,h1,h2⟩,h=>by
  subst e
  cases i with
  | zero=>simp at h;subst h;exact ⟨u,rfl,h1⟩
  | succ i=>simpa using relVs_get h2 (by simpa using h)
theorem relVs_len:∀{l:List AVal} {us:List Value},RelVs P M φ l us→us.length=l.length
 | [],us,h=>by simp only [RelVs] at h;subst h;rfl
 | α::l,us,⟨u,r,e,h1,h2⟩=>by subst e;simp [relVs_len h2]
theorem zip_map {α β γ:Type} (f:β→γ):∀(l:List α) (m:List β),l.length=m.length→(l.zip m).map (fun x=>f x.2)=m.map f
 | [],[],_=>rfl
 | x::l,y::m,h=>by simp [zip_map f l m (by simpa using h)]
 | [],y::m,h=>by simp at h
 | x::l,[],h=>by simp at h
theorem pv_ok (hc:Core P b M φ ξ H w) {a:Act} (he:EnvR P M φ ρ a.tmps) {o:Oper} {β:AVal} {C:List Prop} (h:pv P ρ H o.type o.op=some (β,C)) (hC:AllP C):∃v,(execOp a.eval o).run P w=.ok (.value v) w∧RelV P M φ β v:=by
 obtain ⟨dst,op,ty,pos,after,guard⟩:=o
 change pv P ρ H ty op=some (β,C) at h
 have val:∀{s:Sem Value},execOp a.eval ⟨dst,op,ty,pos,after,guard⟩=vN s→(∃r,s.run P w=.ok r w∧RelV P M φ β r)→∃v,(execOp a.eval ⟨dst,op,ty,pos,after,guard⟩).run P w=.ok (.value v) w∧RelV P M φ β v:=by
  rintro s e ⟨r,h1,h2⟩
  exact ⟨r,by rw [e];exact vN_run h1,h2⟩
 cases op with
 | lookup T x i ck =>
  simp only [pv] at h
  split at h
  ·rename_i α κ hα hκ
   exact val rfl (lkA_ok hc h (evA_ok he hα) (evA_ok he hκ))
  ·cases h
 | move x =>
  simp only [pv] at h
  split at h
  ·rename_i α hα
   simp only [injEq,Prod.mk.injEq] at h
   obtain ⟨rfl,rfl⟩:=h
   exact ⟨_,rfl,evA_ok he hα⟩
  ·cases h
 | assign x =>
  simp only [pv] at h
  split at h
  ·rename_i α hα
   simp only [injEq,Prod.mk.injEq] at h
   obtain ⟨rfl,rfl⟩:=h
   exact ⟨_,rfl,evA_ok he hα⟩
  ·cases h
 | pick c x y =>
  simp only [pv] at h
  split at h
  ·rename_i z hz
   have hzc:=bool_val (evA_ok he hz)
   split at h
   ·split at h
    ·rename_i α hα
     simp only [injEq,Prod.mk.injEq] at h
     obtain ⟨rfl,rfl⟩:=h
     refine ⟨a.eval x,?_,evA_ok he hα⟩
     simp [execOp,hzc,asBool]
    ·cases h
   ·split at h
    ·rename_i α hα
     simp only [injEq,Prod.mk.injEq] at h
     obtain ⟨rfl,rfl⟩:=h
     refine ⟨a.eval y,?_,evA_ok he hα⟩
     simp [execOp,hzc,asBool]
    ·cases h
  ·cases h
 | load T x =>
  simp only [pv] at h
  split at h
  ·rename_i α hα
   exact val rfl (ldA_ok hc (evA_ok he hα) h hC)
  ·cases h
 | field T x f =>
  simp only [pv] at h
  split at h
  ·rename_i α hα
   exact val rfl (fdA_ok (evA_ok he hα) h w)
  ·cases h
 | fieldAddr T x f =>
  simp only [pv] at h
  split at h
  ·rename_i α hα
   exact val rfl (faA_ok (evA_ok he hα) h w)
  ·cases h
 | indexAddr T x i =>
  simp only [pv] at h
  split at h
  ·rename_i α γ hα hγ
   exact val rfl (iaA_ok hc (evA_ok he hα) (evA_ok he hγ) h hC)
  ·cases h
 | index T x i =>
  simp only [pv] at h
  split at h
  ·rename_i α γ hα hγ
   exact val rfl (ixA_ok (evA_ok he hα) (evA_ok he hγ) h hC w)
  ·cases h
 | binOp op t x y yt =>
  simp only [pv] at h
  split at h
  ·rename_i α γ hα hγ
   exact val (s:=eqN op t x y (a.eval x) (a.eval y)) rfl (boN_ok (evA_ok he hα) (evA_ok he hγ) (fun hy=>(by
    unfold isNilC at hy
    split at hy
    ·rfl
    ·cases hy)) h hC w)
  ·cases h
 | unOp op t x =>
  simp only [pv] at h
  split at h
  ·rename_i α hα
   exact val rfl (uoA_ok (evA_ok he hα) h w)
  ·cases h
 | convert s t x =>
  simp only [pv] at h
  split at h
  ·rename_i α hα
   exact val rfl (cvA_ok hc (evA_ok he hα) h)
  ·cases h
 | extract x i =>
  simp only [pv] at h
  split at h
  ·rename_i l hl
   split at h
   ·rename_i α hα
    simp only [injEq,Prod.mk.injEq] at h
    obtain ⟨rfl,rfl⟩:=h
    obtain ⟨us,e,hr⟩:=evA_ok he hl
    obtain ⟨u,hu,hr⟩:=relVs_get hr hα
    refine val rfl ⟨u,?_,hr⟩
    rw [e]
    simp [Instr.extract,hu]
   ·cases h
  ·cases h
 | nilCheck x =>
  simp only [pv] at h
  split at h
  ·rename_i α hα
   split at h
   ·rename_i hn
    simp only [injEq,Prod.mk.injEq] at h
    obtain ⟨rfl,rfl⟩:=h
    have hr:=evA_ok he hα
    refine ⟨a.eval x,?_,hr⟩
    unfold okNil at hn
    split at hn
    ·obtain ⟨g,_,e⟩:=hr
     simp only [execOp,e]
     rfl
    ·obtain ⟨_,g,off,cs,e,_⟩:=hr
     simp only [execOp,e]
     rfl
    ·obtain ⟨us,e,_⟩:=hr
     simp only [execOp,e]
     rfl
    ·cases hn
   ·cases h
  ·cases h
 | makeFunc f first cap =>
  cases f<;>simp only [pv,reduceCtorEq] at h
  split at h
  ·rename_i l hf hl
   simp only [injEq,Prod.mk.injEq] at h
   obtain ⟨rfl,rfl⟩:=h
   have hr:=evL_ok he hl
   have e1:first=#[]:=by apply Array.ext';simpa using hf
   subst e1
   refine val rfl ⟨_,rfl,_,?_,hr⟩
   simp
   congr 1
   apply Array.ext'
   simp
  ·cases h
 | build T ps =>
  simp only [pv] at h
  split at h
  ·rename_i l hl
   split at h
   ·rename_i r hr
    split at h
    ·rename_i ha
     simp only [injEq,Prod.mk.injEq] at h
     obtain ⟨rfl,rfl⟩:=h
     obtain ⟨k1,k2⟩:=evPs_ok he hl
     have:=bldT_ok hr ha k2 (by simp [k1]) w
     have e:ps.map (fun (x:Nat×Operand)=>(x.1,a.eval x.2))=(ps.toList.map fun x=>(x.1,a.eval x.2)).toArray:=by apply Array.ext';simp
     refine val (s:=Instr.build T (ps.map fun (x:Nat×Operand)=>(x.1,a.eval x.2))) rfl ?_
     rw [e]
     exact this
    ·cases h
   ·cases h
  ·cases h
 | slice T x lo hi mx =>
  cases mx with
  | some y =>
   cases hi with
   | none=>simp [pv] at h
   | some hi =>
    simp only [pv] at h
    split at h
    ·rename_i α o1 o2 o3 hα h1 h2 h3
     exact val rfl (slF_ok hc (evA_ok he hα) (evO_ok he h1) (evA_ok he h2) (evA_ok he h3) h hC)
    ·cases h
  | none =>
   simp only [pv] at h
   split at h
   ·rename_i α o1 o2 hα h1 h2
    exact val rfl (slR_ok hc (evA_ok he hα) (evO_ok he h1) (evO_ok he h2) h hC)
   ·cases h
 | call c =>
  obtain ⟨callee,xs,ts⟩:=c
  cases callee<;>simp only [pv,reduceCtorEq] at h
  rename_i bi
  split at h
  ·rename_i l hl
   split at h
   ·rename_i hs
    have hs:=Nat.eq_of_beq_eq_true hs
    have hr:=evL_ok he hl
    rw [zip_map a.eval _ _ (by simpa using hs)] at hr
    obtain ⟨r,h1,h2,h3⟩:=biA_ok (ty:=ty) hc hr h
    have e2:xs.map a.eval=(xs.toList.map a.eval).toArray:=by apply Array.ext';simp
    refine ⟨r,?_,h2⟩
    rcases h3 with rfl|rfl|rfl
    ·simp only [execOp,resolve]
     rw [e2]
     simp only at h1
     simp [invoke,builtin,h1]
    ·simp only [execOp,resolve]
     rw [e2]
     simp only at h1
     simp [invoke,builtin,h1]
    ·simp only [execOp,resolve]
     rw [e2]
     simp only at h1
     simp [invoke,builtin,h1]
   ·cases h
  ·cases h
 | _=>simp [pv] at h
end
def setL:AStore→Nat→AItem→AStore
 | [],_,_=>[]
 | (l,i)::H,L,it=>if Nat.beq l L then (l,it)::H else (l,i)::setL H L it
def remL:AStore→Nat→AStore
 | [],_=>[]
 | (l,i)::H,L=>if Nat.beq l L then H else (l,i)::remL H L
theorem look_split:∀{H:AStore} {L:Nat} {it:AItem},look H L=some it→∃H1 H2,H=H1++(L,it)::H2∧(∀it',setL H L it'=H1++(L,it')::H2)∧remL H L=H1++H2
 | (l,i)::H,L,it,h=>by
  simp only [look] at h
  split at h
  ·rename_i e
   have e':=Nat.eq_of_beq_eq_true e
   simp only [injEq] at h
   subst e' h
   exact ⟨[],H,rfl,fun it'=>by simp [setL],by simp [remL]⟩
  ·rename_i e
   obtain ⟨H1,H2,rfl,h1,h2⟩:=look_split h
   exact ⟨(l,i)::H1,H2,rfl,fun it'=>by simp only [setL,if_neg e,h1];rfl,by simp only [remL,if_neg e,h2];rfl⟩
def coeS:(s t:Sh)→s.ty→Option t.ty
 | .int k,.int k',x=>if k=k' then some x else none
 | .bool,.bool,x=>some x
 | .str,.str,x=>some x
 | .unit,.unit,x=>some x
 | .prod a b,.prod c d,x=>match coeS a c x.1,coeS b d x.2 with
  | some y,some z=>some (y,z)
  | _,_=>none
 | .st s,.st t,x=>coeS s t x
 | .arr n s,.arr m t,x=>if n=m then (if h:s=t then some (h▸x) else none) else none
 | .sl s,.sl t,x=>if h:s=t then some (h▸x) else none
 | .nl _,.sl _,_=>some []
 | .nl _,.nl _,_=>some ()
 | .any,.any,_=>some ()
 | .np,.any,_=>some ()
 | .np,.np,_=>some ()
 | .oref,.oref,x=>some x
 | .pt s,.pt t,x=>if t.fixed&&t.pers then coeS s t x else none
 | .fn a b,.fn c d,p=>if h:a=c∧b=d then some (h.1▸h.2▸p) else none
 | .ref,.ref,x=>some x
 | _,_,_=>none
section
variable {P:Program} {n0:Nat} {b:Base n0} {M:Fz} {φ:Nat→Value} {ξ:Nat→Option Nat} {H:AStore} {w:World} {ρ:AEnv}
theorem coeS_ok:∀{s t:Sh} {x:s.ty} {y:t.ty} {cs:List Value},coeS s t x=some y→RepC P φ s M cs x→RepC P φ t M cs y:=by
 intro s
 induction s with
 | int k =>
  intro t x y cs h hr
  cases t<;>simp only [coeS,reduceCtorEq] at h
  split at h
  ·rename_i e
   subst e
   simp only [injEq] at h
   subst h
   exact hr
  ·cases h
 | bool=>intro t x y cs h hr;cases t<;>simp only [coeS,reduceCtorEq,injEq] at h;subst h;exact hr
 | str=>intro t x y cs h hr;cases t<;>simp only [coeS,reduceCtorEq,injEq] at h;subst h;exact hr
 | unit=>intro t x y cs h hr;cases t<;>simp only [coeS,reduceCtorEq,injEq] at h;exact hr
 | prod a b iha ihb =>
  intro t x y cs h hr
  cases t<;>simp only [coeS,reduceCtorEq] at h
  split at h
  ·rename_i y1 y2 h1 h2
   simp only [injEq] at h
   subst h
   obtain ⟨c1,c2,rfl,g1,g2⟩:=hr
   exact ⟨c1,c2,rfl,iha h1 g1,ihb h2 g2⟩
  ·cases h
 | st s ih =>
  intro t x y cs h hr
  cases t<;>simp only [coeS,reduceCtorEq] at h
  have:=ih h hr
  exact this
 | arr n s ih =>
  intro t x y cs h hr
  cases t<;>simp only [coeS,reduceCtorEq] at h
  split at h
  ·rename_i e
   subst e
   split at h
   ·rename_i e
    subst e
    simp only [injEq] at h
    subst h
    exact hr
   ·cases h
  ·cases h
 | sl s ih =>
  intro t x y cs h hr
  cases t<;>simp only [coeS,reduceCtorEq] at h
  split at h
  ·rename_i e
   subst e
   simp only [injEq] at h
   subst h
   exact hr
  ·cases h
 | nl s ih =>
  intro t x y cs h hr
  simp only [RepC] at hr
  subst hr
  cases t<;>simp only [coeS,reduceCtorEq,injEq] at h
  ·subst h
   exact ⟨none,0,0,[],rfl,rfl,⟨Nat.le_refl _,by simp [maxLen]⟩,Cl.nil _ _,rfl⟩
  ·rfl
 | any=>intro t x y cs h hr;cases t<;>simp only [coeS,reduceCtorEq,injEq] at h;exact hr
 | np =>
  intro t x y cs h hr
  cases t<;>simp only [coeS,reduceCtorEq,injEq] at h
  ·simp only [RepC] at hr;subst hr;exact ⟨_,rfl,rfl⟩
  ·exact hr
 | oref=>intro t x y cs h hr;cases t<;>simp only [coeS,reduceCtorEq,injEq] at h;subst h;exact hr
 | ref=>intro t x y cs h hr;cases t<;>simp only [coeS,reduceCtorEq,injEq] at h;subst h;exact hr
 | fn a b _ _ =>
  intro t x y cs h hr
  cases t<;>simp only [coeS,reduceCtorEq] at h
  split at h
  ·rename_i e
   obtain ⟨rfl,rfl⟩:=e
   simp only [injEq] at h
   subst h
   exact hr
  ·cases h
 | pt s ih =>
  intro t x y cs h hr
  cases t<;>simp only [coeS,reduceCtorEq] at h
  split at h
  ·obtain ⟨g,off,vs,rfl,h1,h2⟩:=hr
   exact ⟨g,off,vs,rfl,h1,ih h h2⟩
  ·cases h
 | _=>intro t x y cs h;cases t<;>simp [coeS] at h
theorem Core.repl {H1 H2:AStore} {L N:Nat} {it it':AItem} (s:Core P b M φ ξ (H1++(L,it)::H2) w) (hN:freshB n0 N ρ (H1++(L,it)::H2)=true) {w':World} {u:Value} {o:Option Nat}
  (hos:w'.os=w.os) (htp:w'.tape=w.tape) (hou:w'.output=w.output) (hsz:w.heap.size≤w'.heap.size) (hk:∀k,k<w.heap.size→ξ L≠some k→w'.heap[k]?=w.heap[k]?)
  (hit:Held P M (upd φ N u) w' u o it') (ho:∀g,o=some g→w.heap.size≤g∨ξ L=some g):Core P b M (upd φ N u) (upd ξ N o) ((N,it')::(H1++H2)) w':=by
 have hm:(L,it)∈H1++(L,it)::H2:=by simp
 have hsub:∀x,x∈H1++H2→x∈H1++(L,it)::H2:=fun x hx=>by
  rcases List.mem_append.1 hx with h|h
  ·exact List.mem_append_left _ h
  ·exact List.mem_append_right _ (List.mem_cons_of_mem _ h)
 have hneL:∀x∈H1++H2,x.1≠L:=by
  intro x hx e
  have hn:=s.nd
  rw [List.map_append,List.map_cons,List.nodup_append] at hn
  obtain ⟨h1,h2,h3⟩:=hn
  rw [List.nodup_cons] at h2
  rcases List.mem_append.1 hx with h|h
  ·exact h3 x.1 (List.mem_map.2 ⟨_,h,rfl⟩) L (List.mem_cons_self ..) e
  ·exact h2.1 (e▸List.mem_map.2 ⟨_,h,rfl⟩)
 have hne:=fresh_store hN
 have lt:∀g c,M g=some c→g<w.heap.size:=fun g c h=>by
  obtain ⟨t,fr,e⟩:=s.over g c h
  exact (Array.getElem?_eq_some_iff.1 e).1
 have foot:∀l i,(l,i)∈H1++(L,it)::H2→∀g,ξ l=some g→g<w.heap.size:=fun l i h g hg=>held_lt (s.items l i h) g hg
 have apart:∀l i,(l,i)∈H1++H2→∀g,ξ l=some g→ξ L≠some g:=fun l i h g hg e=>hneL _ h (s.sep l L i it g (hsub _ h) hm hg e)
 refine ⟨s.le,s.same,s.over' fun g c h=>hk g (lt g c h) (fun e=>by have:=(s.feet L it g hm e).2;rw [h] at this;cases this),s.below.trans ⟨hos,htp,hou,hsz,fun k hkk he=>?_⟩,?_,?_,?_,?_,?_⟩
 ·refine hk k (Nat.lt_of_lt_of_le hkk s.below.size) fun e=>?_
  rcases (s.feet L it k hm e).1 with h|h
  ·omega
  ·exact he h
 ·intro l i hi
  rcases List.mem_cons.1 hi with e|hj
  ·simp only [Prod.mk.injEq] at e
   obtain ⟨rfl,rfl⟩:=e
   rw [upd_same,upd_same]
   exact hit
  ·have h1:=mem_labs (hsub _ hj)
   rw [upd_ne (hne l h1.1),upd_ne (hne l h1.1)]
   exact held_labs (fun x hx=>upd_ne (hne x (h1.2 x hx))) (held_kept (Fz.le_refl _) (s.items l i (hsub _ hj)) fun g hg=>hk g (foot l i (hsub _ hj) g hg) (apart l i hj g hg))
 ·intro l i g hi hg
  rcases List.mem_cons.1 hi with e|hj
  ·simp only [Prod.mk.injEq] at e
   obtain ⟨rfl,rfl⟩:=e
   rw [upd_same] at hg
   rcases ho g hg with h|h
   ·refine ⟨.inl (Nat.le_trans s.below.size h),?_⟩
    cases hM:M g with
    | none=>rfl
    | some c=>have:=lt g c hM;omega
   ·exact s.feet L it g hm h
  ·rw [upd_ne (hne l (mem_labs (hsub _ hj)).1)] at hg
   exact s.feet l i g (hsub _ hj) hg
 ·intro l l' i i' g hi hi' hg hg'
  have new:∀l i,(l,i)∈H1++H2→o=some g→ξ l=some g→False:=by
   intro l i hj h1 h2
   rcases ho g h1 with h|h
   ·have:=foot l i (hsub _ hj) g h2;omega
   ·exact apart l i hj g h2 h
  rcases List.mem_cons.1 hi with e|hj<;>rcases List.mem_cons.1 hi' with e'|hj'
  ·simp only [Prod.mk.injEq] at e e'
   exact e.1.trans e'.1.symm
  ·simp only [Prod.mk.injEq] at e
   rw [e.1,upd_same] at hg
   rw [upd_ne (hne l' (mem_labs (hsub _ hj')).1)] at hg'
   exact (new l' i' hj' hg hg').elim
  ·simp only [Prod.mk.injEq] at e'
   rw [e'.1,upd_same] at hg'
   rw [upd_ne (hne l (mem_labs (hsub _ hj)).1)] at hg
   exact (new l i hj hg' hg).elim
  ·rw [upd_ne (hne l (mem_labs (hsub _ hj)).1)] at hg
   rw [upd_ne (hne l' (mem_labs (hsub _ hj')).1)] at hg'
   exact s.sep l l' i i' g (hsub _ hj) (hsub _ hj') hg hg'
 ·rw [List.map_cons,List.nodup_cons]
  have hn:=s.nd
  rw [List.map_append,List.map_cons] at hn
  refine ⟨fun h=>?_,?_⟩
  ·obtain ⟨x,hx,e⟩:=List.mem_map.1 h
   exact hne x.1 (mem_labs (L:=x.1) (it:=x.2) (hsub _ hx)).1 e
  ·rw [List.map_append]
   exact hn.sublist ((List.Sublist.refl _).append (List.sublist_cons_self _ _))
 ·intro l hl
  rw [upd_ne (by have:=fresh_ge hN;omega)]
  exact s.keep l hl
def Later (L:Nat) (M M':Fz) (φ φ':Nat→Value):Prop:=M.le M'∧∀l,l<L→φ' l=φ l
def Does (P:Program) {n0:Nat} (b:Base n0) (ρ:AEnv) (H:AStore) (o:Oper) (β:AVal) (H':AStore) (L:Nat):Prop :=
 ∀M φ ξ w (a:Act),Core P b M φ ξ H w→EnvR P M φ ρ a.tmps→∃M' φ' ξ' w' v,((execOp a.eval o).run P w=.ok (.value v) w'∨(v=undef∧(execOp a.eval o).run P w=.ok .skip w'))∧Core P b M' φ' ξ' H' w'∧EnvR P M' φ' ρ a.tmps∧Later L M M' φ φ'∧RelV P M' φ' β v
def labOk (L:Nat) (s:Sh) (x:s.ty):Bool:=s.pers||!(s.labs x).any (Nat.beq L)
theorem rep_upd {s:Sh} {x:s.ty} {cs:List Value} {L:Nat} {u:Value} (hf:s.fixed=true) (h:labOk L s x=true) (hr:RepC P φ s M cs x):RepC P (upd φ L u) s M cs x:=by
 simp only [labOk,Bool.or_eq_true,Bool.not_eq_true'] at h
 rcases h with h|h
 ·exact rep_pers h hr
 ·refine rep_labs hf (fun l hl=>upd_ne ?_) hr
  rintro rfl
  rw [List.any_eq_false] at h
  exact h l hl (by simp)
def boxA (n0:Nat) (ρ:AEnv) (H:AStore) (T:TypeId) (L:Nat) (α:AVal):Option (AVal×AStore) :=
 match putH H α with
 | some v=>if v.1.fixed&&v.1.isV&&freshB n0 L ρ H&&labOk L v.1 v.2 then some (.ptr L [] 0,(L,.var T v.1 v.2)::H) else none
 | none=>none
theorem does_box {T:TypeId} {x:Operand} {α β:AVal} {L:Nat} {H':AStore} {dst pos after guard ty} (h:evA P ρ T x=some α) (hb:boxA n0 ρ H T L α=some (β,H')):Does P b ρ H ⟨dst,.box T x,ty,pos,after,guard⟩ β H' L:=by
 intro M φ ξ w a hc he
 unfold boxA at hb
 split at hb
 ·rename_i v hp
  split at hb
  ·rename_i hh
   simp only [Bool.and_eq_true] at hh
   obtain ⟨⟨⟨hf,hv⟩,hL⟩,hlo⟩:=hh
   simp only [injEq,Prod.mk.injEq] at hb
   obtain ⟨rfl,rfl⟩:=hb
   obtain ⟨cs,e,hr⟩:=relV_putH hc (evA_ok he h) hp hf
   have hcells:=mkV_cells (rep_len hf hr) hv (rep_one hr)
   refine ⟨M,upd φ L (.pointer (some ⟨w.heap.size,0,none⟩)),upd ξ L (some w.heap.size),w.alloc (.cells cs.toArray T),.pointer (some ⟨w.heap.size,0,none⟩),.inl ?_,?_,he.labs (fresh_env hL _ _),⟨Fz.le_refl _,fun l hl=>upd_ne (by omega)⟩,?_⟩
   ·show (vN (Instr.box T (a.eval x))).run P w=_
    refine vN_run ?_
    rw [e]
    simp [Instr.box,newVar,newRow,hcells]
   ·exact hc.alloc hL ⟨hf,w.heap.size,cs.toArray,rfl,rfl,heap_alloc_new w _,rep_upd hf hlo hr⟩
   ·exact ⟨w.heap.size,by rw [upd_same];rfl,rfl⟩
  ·cases hb
 ·cases hb
def allocA (P:Program) (n0:Nat) (ρ:AEnv) (H:AStore) (T:TypeId) (L:Nat):Option (AVal×AStore) :=
 match P.info? T with
 | some it=>match it.zero with
  | some z=>match dec (shOf P true 20 T) z.cells.toList with
   | some (x,[])=>if (shOf P true 20 T).fixed&&(shOf P true 20 T).isV&&freshB n0 L ρ H&&(shOf P true 20 T).pers then some (.ptr L [] 0,(L,.var T (shOf P true 20 T) x)::H) else none
   | _=>none
  | none=>none
 | none=>none
theorem does_alloc {T:TypeId} {β:AVal} {L:Nat} {H':AStore} {dst pos after guard ty} (hb:allocA P n0 ρ H T L=some (β,H')):Does P b ρ H ⟨dst,.alloc T,ty,pos,after,guard⟩ β H' L:=by
 intro M φ ξ w a hc he
 unfold allocA at hb
 split at hb
 ·rename_i it hi
  split at hb
  ·rename_i z hz
   split at hb
   ·rename_i x hd
    split at hb
    ·rename_i hh
     simp only [Bool.and_eq_true] at hh
     obtain ⟨⟨⟨hf,hv⟩,hL⟩,hlo⟩:=hh
     simp only [injEq,Prod.mk.injEq] at hb
     obtain ⟨rfl,rfl⟩:=hb
     obtain ⟨c,hc',hr⟩:=dec_ok (P:=P) (φ:=φ) (M:=M) hd
     rw [List.append_nil] at hc'
     subst hc'
     refine ⟨M,upd φ L (.pointer (some ⟨w.heap.size,0,none⟩)),upd ξ L (some w.heap.size),w.alloc (.cells z.cells T),.pointer (some ⟨w.heap.size,0,none⟩),.inl ?_,?_,he.labs (fresh_env hL _ _),⟨Fz.le_refl _,fun l hl=>upd_ne (by omega)⟩,?_⟩
     ·show (vN (Instr.alloc T true (.tuple #[]))).run P w=_
      refine vN_run ?_
      simp [Instr.alloc,zeroValue,typeInfo,hi,hz,newVar,newRow]
     ·exact hc.alloc hL ⟨hf,w.heap.size,z.cells,rfl,rfl,heap_alloc_new w _,rep_pers hlo hr⟩
     ·exact ⟨w.heap.size,by rw [upd_same];rfl,rfl⟩
    ·cases hb
   ·cases hb
  ·cases hb
 ·cases hb
theorem run_storeCellsAt {g:Nat} {t:TypeId} {fr:Nat×Nat}:∀(l:List Value) {w:World} {c:Array Value} {off i:Nat} {pre old post:List Value},(fr=(0,0)∨pre.length+old.length≤fr.1)→w.heap[g]?=some (.cells c t fr)→c.toList=pre++old++post→pre.length=off+i→old.length=l.length→(∀v∈l,v.oneCell'=true) →
  ∃w',(storeCells ⟨g,off,none⟩ l i).run P w=.ok () w'∧w'.heap[g]?=some (.cells (pre++l++post).toArray t fr)∧w'.os=w.os∧w'.tape=w.tape∧w'.output=w.output∧w'.heap.size=w.heap.size∧∀b,b≠g→w'.heap[b]?=w.heap[b]?
 | [],w,c,off,i,pre,old,post,hm,h,hc,ho,hl,_=>by
  obtain rfl:=List.length_eq_zero_iff.1 hl
  exact ⟨w,rfl,by rw [h,← hc],rfl,rfl,rfl,rfl,fun _ _=>rfl⟩
 | v::l,w,c,off,i,pre,old,post,hm,h,hc,ho,hl,h1=>by
  cases old with
  | nil=>simp at hl
  | cons o old =>
   have hv:=h1 v (by simp)
   have hcell:w.cell? ((⟨g,off,none⟩:Addr).add i)=some o:=by
    have:c[off+i]?=some o:=by rw [← Array.getElem?_toList,hc,← ho];simp
    rw [addz]
    simp [World.cell?,h,this]
   have hfz:w.frozen? ((⟨g,off,none⟩:Addr).add i)=false:=by
    rw [addz]
    rcases hm with rfl|hm
    ·simp [World.frozen?,h]
    ·simp only [List.length_cons] at hm
     simp [World.frozen?,h]
     omega
   have hst:(store ((⟨g,off,none⟩:Addr).add i) v).run P w=.ok () (w.setCell ((⟨g,off,none⟩:Addr).add i) v):=by
    cases v<;>first|(simp [Value.oneCell'] at hv;done)|simp [store,Sem.run,hcell,hfz]
   have hset:(w.setCell ((⟨g,off,none⟩:Addr).add i) v).heap[g]?=some (.cells (c.setIfInBounds (off+i) v) t fr):=by
    rw [addz]
    simp [World.setCell,Array.getElem?_modify,h]
   obtain ⟨w',r1,r2,r3,r4,r5,r6,r7⟩:=run_storeCellsAt l (w:=w.setCell ((⟨g,off,none⟩:Addr).add i) v) (off:=off) (i:=i+1) (pre:=pre++[v]) (old:=old) (post:=post) (hm.imp id fun hm=>by simp only [List.length_append,List.length_cons,List.length_nil] at hm ⊢;omega) hset (by rw [Array.toList_setIfInBounds,hc,← ho];simp) (by simp [ho];omega) (by simpa using hl) (fun u hu=>h1 u (by simp [hu]))
   refine ⟨w',?_,by simpa using r2,r3,r4,r5,r6.trans (by simp [World.setCell]),fun k hk=>(r7 k hk).trans (Below.heap_setCell _ _ _ _ (by rw [addz];exact hk))⟩
   simp only [storeCells,Sem.run_bind,hst,Result.andThen_ok,r1]
def asMb (o:Sh) (u:TV):TV:=match o,u with
 | .mb,⟨.int .u8,x⟩=>⟨.mb,x⟩
 | _,u=>u
theorem asMb_ok {o:Sh} {u:TV} {cs:List Value} (h:RepC P φ u.1 M cs u.2):RepC P φ (asMb o u).1 M cs (asMb o u).2:=by
 obtain ⟨s,x⟩:=u
 cases o with
 | mb=>cases s with
  | int k=>cases k<;>exact h
  | _=>exact h
 | _=>exact h
def stoA (P:Program) (H:AStore) (T:TypeId):AVal→AVal→Option (AStore×List Prop)
 | .ptr L p off,α=>match putH H α,look H L with
  | some u,some it=>match getP it.tv.1 it.tv.2 p,setI it p (asMb (match getP it.tv.1 it.tv.2 p with|some old=>old.1|none=>.any) u) with
   | some old,some it'=>if rowOk it p&&old.1.fixed&&u.1.fixed&&u.1.isV&&Nat.beq old.1.size u.1.size&&szB P T u.1.size then
     (if noI p&&Nat.beq (offP it.tv.1 p) off then some (setL H L it',[]) else some (setL H L it',[offP it.tv.1 p=off,okP it.tv.1 it.tv.2 p])) else none
   | _,_=>none
  | _,_=>none
 | _,_=>none
theorem does_store {L:Nat} {T:TypeId} {x y:Operand} {α γ:AVal} {H':AStore} {C:List Prop} {dst pos after guard ty} (h1:evA P ρ 0 x=some α) (h2:evA P ρ T y=some γ) (hs:stoA P H T α γ=some (H',C)) (hC:AllP C):Does P b ρ H ⟨dst,.store T x y,ty,pos,after,guard⟩ .undef H' L:=by
 intro M φ ξ w a hc he
 have hu:=evA_ok he h1
 have hv:=evA_ok he h2
 unfold stoA at hs
 split at hs
 ·rename_i _ L p off
  split at hs
  ·rename_i u it hp hl
   split at hs
   ·rename_i old it' hg hset
    split at hs
    ·rename_i hh
     simp only [Bool.and_eq_true] at hh
     obtain ⟨⟨⟨⟨⟨k1,k2⟩,k3⟩,k4⟩,k5⟩,k6⟩:=hh
     have fin:H'=setL H L it'∧offP it.tv.1 p=off∧okP it.tv.1 it.tv.2 p:=by
      split at hs
      ·rename_i hn
       simp only [Bool.and_eq_true] at hn
       simp only [injEq,Prod.mk.injEq] at hs
       exact ⟨hs.1.symm,Nat.eq_of_beq_eq_true hn.2,okP_noI hn.1 hg⟩
      ·simp only [injEq,Prod.mk.injEq] at hs
       obtain ⟨rfl,rfl⟩:=hs
       exact ⟨rfl,hC.1,hC.2.1⟩
     obtain ⟨rfl,ho,hok⟩:=fin
     obtain ⟨g,c,T',pre,cs,post,e1,e2,e3,e4,e5,e6,e7⟩:=place_ok hc hl k1 hg hok
     obtain ⟨g',e8,e9⟩:=hu
     obtain rfl:=inj (e1.symm.trans e8)
     obtain ⟨fr,e3,ef⟩:=e3
     obtain ⟨ds,e10,e11⟩:=relV_putH hc hv hp k3
     have hdl:=rep_len k3 e11
     have hcl:=rep_len k2 e6
     have k5:=Nat.eq_of_beq_eq_true k5
     have hcells:=mkV_cells hdl k4 (rep_one e11)
     obtain ⟨w',r1,r2,r3,r4,r5,r6,r7⟩:=run_storeCellsAt (P:=P) ds (off:=off) (i:=0) ef e3 e4 (by omega) (by omega) (rep_one e11)
     obtain ⟨H1,H2,rfl,hset',_⟩:=look_split hl
     refine ⟨M,φ,ξ,w',undef,.inr ⟨rfl,?_⟩,?_,he,⟨Fz.le_refl _,fun _ _=>rfl⟩,rfl⟩
     ·show (uN (Instr.storeAt T (a.eval x) (a.eval y))).run P w=_
      refine uN_run ?_
      rw [e9,e10]
      have hsz:(mkV u.1 ds).cells.size=u.1.size:=by rw [hcells];simpa using hdl
      simp [Instr.storeAt,Instr.sureAddr,storeVar,szB_ok k6,hcells,hdl,r1]
     ·rw [hset']
      exact hc.write e2 r3 r4 r5 (by omega) (fun k hk=>r7 k hk) (e7 ds _ it' w' (by omega) (asMb_ok e11) hset fun fr' h=>by rw [e3] at h;simp only [injEq,Obj.cells.injEq,true_and] at h;subst h;exact r2)
    ·cases hs
   ·cases hs
  ·cases hs
 ·cases hs
end
def bytesB (P:Program) (e:TypeId):Nat:=match P.info? e with|some i=>i.bytes|none=>0
def Sh.isMb:Sh→Bool
 | .mb=>true
 | _=>false
def rowB (P:Program) (e:TypeId) (s:Sh):Bool:=match P.info? e with
 | some i=>match i.zero with
  | some z=>Nat.beq i.size s.size&&Nat.beq z.cells.size s.size&&!Nat.beq s.size 0&&s.fixed&&(s.isV&&!s.isMb)&&s.pers
  | none=>false
 | none=>false
def listV (s:Sh):List AVal→Option (List s.ty)
 | []=>some []
 | .v t x::l=>match coeS t s x,listV s l with
  | some y,some r=>if t.agg==s.agg then some (y::r) else none
  | _,_=>none
 | _::_=>none
section
variable {P:Program} {n0:Nat} {b:Base n0} {M:Fz} {φ:Nat→Value} {ξ:Nat→Option Nat} {H:AStore} {w:World} {ρ:AEnv}
theorem rowB_ok {e:TypeId} {s:Sh} (h:rowB P e s=true):∃i z,P.info? e=some i∧i.zero=some z∧i.size=s.size∧z.cells.size=s.size∧0<s.size∧s.fixed=true∧s.isV=true∧s.pers=true:=by
 unfold rowB at h
 split at h
 ·rename_i i hi
  split at h
  ·rename_i z hz
   simp only [Bool.and_eq_true,Bool.not_eq_true'] at h
   obtain ⟨⟨⟨⟨⟨h1,h2⟩,h3⟩,h4⟩,h5⟩,h6⟩:=h
   refine ⟨i,z,hi,hz,Nat.eq_of_beq_eq_true h1,Nat.eq_of_beq_eq_true h2,?_,h4,h5.1,h6⟩
   rcases Nat.eq_zero_or_pos s.size with h0|h0
   ·rw [h0] at h3;simp at h3
   ·exact h0
  ·cases h
 ·cases h
theorem rowB_mb {e:TypeId} {s:Sh} (h:rowB P e s=true):s≠.mb:=by
 rintro rfl
 unfold rowB at h
 split at h
 ·split at h
  ·simp [Sh.isMb] at h
  ·cases h
 ·cases h
theorem listV_ok {s:Sh} (hf:s.fixed=true):∀{l:List AVal} {xs:List s.ty} {us:List Value},listV s l=some xs→RelVs P M φ l us→∃css:List (List Value),us=css.map (mkV s)∧RepL (RepC P φ s M) css.flatten xs∧xs.length=us.length∧∀c∈css,c.length=s.size∧∀v∈c,v.oneCell'=true
 | [],xs,us,h,hr=>by
  simp only [listV,injEq] at h
  simp only [RelVs] at hr
  subst h hr
  exact ⟨[],rfl,rfl,rfl,fun c hc=>by cases hc⟩
 | α::l,xs,us,h,hr=>by
  obtain ⟨u,r,rfl,h1,h2⟩:=hr
  cases α<;>simp only [listV,reduceCtorEq] at h
  rename_i t x
  split at h
  ·rename_i y q k1 k2
   split at h
   ·rename_i k3
    simp only [beq_iff_eq] at k3
    simp only [injEq] at h
    subst h
    obtain ⟨_,cs,rfl,hc⟩:=h1
    have hc':=coeS_ok k1 hc
    obtain ⟨css,e1,e2,e3,e4⟩:=listV_ok hf k2 h2
    refine ⟨cs::css,by simp [e1,mkV,k3],⟨cs,css.flatten,by simp,hc',e2⟩,by simp [e3],fun c hm=>?_⟩
    rcases List.mem_cons.1 hm with rfl|hm
    ·exact ⟨rep_len hf hc',rep_one hc'⟩
    ·exact e4 c hm
   ·cases h
  ·cases h
def litA (P:Program) (n0:Nat) (ρ:AEnv) (H:AStore) (T:TypeId) (n:Nat) (L:Nat) (is:List Nat) (l:List AVal):Option (AVal×AStore) :=
 match slB P T with
 | some e=>if rowB P e (shOf P false 20 e)&&decide (is=List.range n)&&Nat.ble (n*(shOf P false 20 e).size) 16777216&&freshB n0 L ρ H&&Nat.beq l.length n then
   match listV (shOf P false 20 e) l with
   | some xs=>some (.row L,(L,.row e (shOf P false 20 e) xs)::H)
   | none=>none
  else none
 | none=>none
theorem does_lit0 {T:TypeId} {n L:Nat} {ps:Array (Nat×Operand)} {l:List AVal} {β:AVal} {H':AStore} {ty et:TypeId} {dst pos after guard} (h:evL P ρ (ps.toList.map fun x=>(et,x.2))=some l) (hb:litA P n0 ρ H T n L (ps.toList.map (·.1)) l=some (β,H')):∀M φ ξ w (a:Act),Core P b M φ ξ H w→EnvR P M φ ρ a.tmps→∃M' φ' ξ' w' v,((execOp a.eval ⟨dst,.buildSlice T n ps,ty,pos,after,guard⟩).run P w=.ok (.value v) w'∨(v=undef∧(execOp a.eval ⟨dst,.buildSlice T n ps,ty,pos,after,guard⟩).run P w=.ok .skip w'))∧Core P b M' φ' ξ' H' w'∧EnvR P M' φ' ρ a.tmps∧Later L M M' φ φ'∧RelV P M' φ' β v∧∀g,ξ' L=some g→b.w.heap.size≤g:=by
 intro M φ ξ w a hc he
 unfold litA at hb
 split at hb
 ·rename_i e hT
  split at hb
  ·rename_i hh
   simp only [Bool.and_eq_true,decide_eq_true_eq] at hh
   obtain ⟨⟨⟨⟨k1,k2⟩,k3⟩,k4⟩,k5⟩:=hh
   have k5:=Nat.eq_of_beq_eq_true k5
   split at hb
   ·rename_i xs hx
    simp only [injEq,Prod.mk.injEq] at hb
    obtain ⟨rfl,rfl⟩:=hb
    obtain ⟨i,z,hi,hz,hsz,hzs,h0,hf,hv,hp⟩:=rowB_ok k1
    generalize shOf P false 20 e=s at *
    have hr:=evL_ok he h
    obtain ⟨css,e1,e2,e3,e4⟩:=listV_ok hf hx hr
    have hlu:=relVs_len hr
    have hcl:css.length=n:=by rw [← k5,← hlu,e1,List.length_map]
    have hrel:=evL_ok he h
    have hparts:(ps.map fun (x:Nat×Operand)=>(x.1,a.eval x.2)).toList=(css.map (mkV s)).zipIdx.map fun x=>(x.2,x.1):=by
     apply List.ext_getElem?
     intro j
     have q1:(ps.toList.map (·.1))[j]?=(List.range n)[j]?:=by rw [k2]
     have q2:((ps.toList.map fun x=>(et,x.2)).map fun x=>a.eval x.2)[j]?=(css.map (mkV s))[j]?:=by rw [e1]
     simp only [Array.toList_map,List.getElem?_map,List.getElem?_zipIdx,Nat.zero_add] at q1 q2⊢
     cases hj:ps.toList[j]? with
     | none =>
      rw [hj] at q2
      simp only [Option.map_none] at q2
      cases hc':css[j]? with
      | none=>simp
      | some c=>rw [hc'] at q2;simp at q2
     | some y =>
      rw [hj] at q1 q2
      simp only [Option.map_some] at q1 q2
      cases hc':css[j]? with
      | none=>rw [hc'] at q2;simp at q2
      | some c =>
       rw [hc'] at q2
       simp only [Option.map_some,injEq] at q2
       have hjn:j<n:=by rw [← hcl];exact (List.getElem?_eq_some_iff.1 hc').1
       rw [List.getElem?_range hjn] at q1
       simp only [injEq] at q1
       simp [q1,q2]
    have hlen:∀v∈css.map (mkV s),v.cells.size=s.size:=by
     intro v hv'
     obtain ⟨c,hcm,rfl⟩:=List.mem_map.1 hv'
     obtain ⟨g1,g2⟩:=e4 c hcm
     rw [mkV_cells g1 hv g2]
     simpa using g1
    have hflat:((css.map (mkV s)).flatMap fun v=>v.cells.toList)=css.flatten:=by
     clear hparts hlen e1 e2 e3 hcl hlu
     induction css with
     | nil=>rfl
     | cons c css ih =>
      obtain ⟨g1,g2⟩:=e4 c (List.mem_cons_self ..)
      simp only [List.map_cons,List.flatMap_cons,List.flatten_cons]
      rw [ih (fun c hc=>e4 c (List.mem_cons_of_mem _ hc)),mkV_cells g1 hv g2]
    have k3:=Nat.le_of_ble_eq_true k3
    rcases Nat.eq_zero_or_pos n with hn|hn
    ·subst hn
     have hcss:css=[]:=List.eq_nil_of_length_eq_zero hcl
     subst hcss
     have hxs:xs=[]:=e2 |> fun e2=>by
      cases xs with
      | nil=>rfl
      | cons x xs=>obtain ⟨c,r,e,h1,_⟩:=e2;have:=rep_len hf h1;simp at e;rw [e.1] at this;simp at this;omega
     subst hxs
     refine ⟨M,upd φ L (.slice (some ⟨w.heap.size,0,none⟩) 0 0),upd ξ L (some w.heap.size),w.alloc (.cells #[] e),.slice (some ⟨w.heap.size,0,none⟩) 0 0,.inl ?_,?_,he.labs (fresh_env k4 _ _),⟨Fz.le_refl _,fun l hl=>upd_ne (by omega)⟩,(by rw [RelV,upd_same];exact ⟨rfl,rfl⟩),fun g hg=>(by rw [upd_same] at hg;cases hg;exact hc.below.size)⟩
     ·show (vN (Instr.buildSlice T 0 (ps.map fun (x:Nat×Operand)=>(x.1,a.eval x.2)))).run P w=_
      refine vN_run ?_
      have hps:(ps.map fun (x:Nat×Operand)=>(x.1,a.eval x.2))=#[]:=by apply Array.ext';rw [hparts];rfl
      rw [hps]
      simp [Instr.buildSlice,run_underlying (slB_ok hT),sizeOf,typeInfo,hi,Instr.fill,newRow]
      congr 2
      apply Array.eq_empty_of_size_eq_zero
      simp
     ·exact hc.alloc k4 ⟨hf,_,0,rfl,.inr ⟨w.heap.size,#[],rfl,rfl,⟨_,heap_alloc_new w _,.inl rfl⟩,Nat.le_refl _,by simp [maxLen],by simp,by simp [RepC,RepL]⟩⟩
    ·have hd:=Go.Great.fill_whole (s:=s.size) h0 (css.map (mkV s)) ((Array.range (n*s.size)).map (z.cells[·%z.cells.size]!)) hlen (by simp [hcl])
     have hfill:Instr.fill (fun i=>some (i*s.size,s.size)) ((Array.range (n*s.size)).map (z.cells[·%z.cells.size]!)) (ps.map fun (x:Nat×Operand)=>(x.1,a.eval x.2)).toList=some css.flatten.toArray:=by
      rw [hparts,hd,hflat]
     refine ⟨M,upd φ L (.slice (some ⟨w.heap.size,0,none⟩) n n),upd ξ L (some w.heap.size),w.alloc (.cells css.flatten.toArray e),.slice (some ⟨w.heap.size,0,none⟩) n n,.inl ?_,?_,he.labs (fresh_env k4 _ _),⟨Fz.le_refl _,fun l hl=>upd_ne (by omega)⟩,(by rw [RelV,upd_same];exact ⟨rfl,rfl⟩),fun g hg=>(by rw [upd_same] at hg;cases hg;exact hc.below.size)⟩
     ·show (vN (Instr.buildSlice T n (ps.map fun (x:Nat×Operand)=>(x.1,a.eval x.2)))).run P w=_
      refine vN_run (run_buildSlice w T e n _ _ i z (slB_ok hT) hi hz (by rw [hsz];omega) (by rw [hsz];have:=Nat.mul_pos hn h0;omega) (by rw [hsz];exact hfill))
     ·have hxl:xs.length=n:=by rw [e3,e1,List.length_map,hcl]
      have hfl:=RepL_len (fun c y hc=>rep_len hf hc) e2
      refine hc.alloc k4 ⟨hf,_,n,by rw [hxl],.inr ⟨w.heap.size,css.flatten.toArray,rfl,rfl,⟨_,heap_alloc_new w _,.inl rfl⟩,by omega,by simp [maxLen];have:=Nat.le_mul_of_pos_right n h0;omega,by simp [hfl,hxl],?_⟩⟩
      rw [List.take_of_length_le (by simp [hfl])]
      exact rep_pers (s:=.lst s) hp (by simpa [RepC] using e2)
   ·cases hb
  ·cases hb
 ·cases hb
theorem does_lit {T:TypeId} {n L:Nat} {ps:Array (Nat×Operand)} {l:List AVal} {β:AVal} {H':AStore} {ty et:TypeId} {dst pos after guard} (h:evL P ρ (ps.toList.map fun x=>(et,x.2))=some l) (hb:litA P n0 ρ H T n L (ps.toList.map (·.1)) l=some (β,H')):Does P b ρ H ⟨dst,.buildSlice T n ps,ty,pos,after,guard⟩ β H' L:=fun M φ ξ w a hc he=>by
 obtain ⟨M',φ',ξ',w',v,h1,h2,h3,h4,h5,_⟩:=does_lit0 (ty:=ty) (dst:=dst) (pos:=pos) (after:=after) (guard:=guard) h hb M φ ξ w a hc he
 exact ⟨M',φ',ξ',w',v,h1,h2,h3,h4,h5⟩
theorem Core.freeze {L:Nat} {e:TypeId} {s:Sh} {xs:List s.ty} (g1:Core P b M φ ξ ((L,.row e s xs)::H) w) (hp:s.pers=true) (hnew:∀g,ξ L=some g→b.w.heap.size≤g):∃M2,M.le M2∧Core P b M2 φ ξ H w∧RelV P M2 φ (.v (.sl s) xs) (φ L):=by
 have hm:(L,AItem.row e s xs)∈(L,AItem.row e s xs)::H:=List.mem_cons_self ..
 have hsub:H.Sublist ((L,AItem.row e s xs)::H):=List.sublist_cons_self _ _
 have hneL:∀x∈H,x.1≠L:=by
  intro x hx e
  have hn:=g1.nd
  rw [List.map_cons,List.nodup_cons] at hn
  exact hn.1 (e▸List.mem_map.2 ⟨_,hx,rfl⟩)
 obtain ⟨hf,A,cap,k1,k2⟩:=g1.items L _ hm
 have hfx:(Sh.sl s).fixed=true:=by simp [Sh.fixed,hf,hp]
 rcases k2 with ⟨_,rfl,rfl,rfl⟩|⟨g,c,k3,rfl,⟨fr,k4,_⟩,k5,k6,k7,k8⟩
 ·exact ⟨M,Fz.le_refl _,g1.sub hsub,hfx,[φ L],by rw [k1];rfl,none,0,0,[],by rw [k1];rfl,rfl,⟨Nat.le_refl _,by simp [maxLen]⟩,Cl.nil _ _,rfl⟩
 ·have hft:=g1.feet L _ g hm k3
  have hge:=hnew g k3
  have hle:M.le (fun x=>if x=g then some c else M x):=fun x d hx=>by
   by_cases e:x=g
   ·subst e;rw [hft.2] at hx;cases hx
   ·simp [e,hx]
  refine ⟨fun x=>if x=g then some c else M x,hle,?_,hfx,[φ L],by rw [k1];rfl,_,_,cap,_,by rw [k1],rfl,⟨k5,k6⟩,?_,rep_mono (s:=.lst s) hle k8⟩
  ·have s':=g1.sub hsub
   refine ⟨Fz.le_trans g1.le hle,fun x hx=>?_,⟨fun x d hx=>?_,g1.over.gl.mono hle⟩,g1.below,fun K it hi=>held_kept hle (s'.items K it hi) fun _ _=>rfl,fun K it x hi hx=>⟨(s'.feet K it x hi hx).1,?_⟩,s'.sep,s'.nd,g1.keep⟩
   ·have:¬x=g:=by omega
    simp [this,g1.same x hx]
   ·by_cases e:x=g
    ·subst e
     simp at hx
     subst hx
     exact ⟨_,_,k4⟩
    ·simp [e] at hx
     exact g1.over x d hx
   ·have:¬x=g:=fun e=>by
     subst e
     exact hneL _ hi (g1.sep K L it _ x (hsub.subset hi) hm hx k3)
    simp [this,(s'.feet K it x hi hx).2]
  ·intro q hq
   refine ⟨g,0,c,rfl,by simp,?_⟩
   rw [Nat.zero_add,List.getElem?_take_of_lt (by rw [List.length_take] at hq;omega)]
   simp
def litF (P:Program) (n0:Nat) (ρ:AEnv) (H:AStore) (T:TypeId) (n:Nat) (L:Nat) (is:List Nat) (l:List AVal):Option AVal:=match litA P n0 ρ H T n L is l with
 | some (_,(_,.row _ s xs)::_)=>if s.pers then some (.v (.sl s) xs) else none
 | _=>none
theorem does_litF {T:TypeId} {n L:Nat} {ps:Array (Nat×Operand)} {l:List AVal} {β:AVal} {ty et:TypeId} {dst pos after guard} (h:evL P ρ (ps.toList.map fun x=>(et,x.2))=some l) (hb:litF P n0 ρ H T n L (ps.toList.map (·.1)) l=some β):Does P b ρ H ⟨dst,.buildSlice T n ps,ty,pos,after,guard⟩ β H L:=fun M φ ξ w a hc he=>by
 unfold litF at hb
 split at hb
 ·rename_i β0 L' e s xs H0 hl
  split at hb
  ·rename_i hp
   simp only [injEq] at hb
   subst hb
   have hl':=hl
   unfold litA at hl'
   split at hl'
   ·split at hl'
    ·split at hl'
     ·simp only [injEq,Prod.mk.injEq,List.cons.injEq] at hl'
      obtain ⟨e1,⟨e2,e3⟩,e4⟩:=hl'
      subst e1 e2 e4
      obtain ⟨M',φ',ξ',w',v,h1,h2,h3,h4,h5,h6⟩:=does_lit0 (b:=b) (ty:=ty) (dst:=dst) (pos:=pos) (after:=after) (guard:=guard) h hl M φ ξ w a hc he
      obtain ⟨M2,k1,k2,k3⟩:=h2.freeze hp h6
      refine ⟨M2,φ',ξ',w',v,h1,k2,h3.mono k1,⟨Fz.le_trans h4.1 k1,h4.2⟩,?_⟩
      rw [h5.1]
      exact k3
     ·cases hl'
    ·cases hl'
   ·cases hl'
  ·cases hb
 ·cases hb
def newsA (H:AStore) (s:Sh):AVal→Option (List s.ty)
 | .v (.sl t) ys=>if h:t=s then some (h▸ys) else none
 | .v (.nl _) _=>some []
 | .row L=>match look H L with
  | some (.row _ t ys)=>if h:t=s then some (h▸ys) else none
  | _=>none
 | _=>none
theorem newsA_ok (hc:Core P b M φ ξ H w) {s:Sh} {α:AVal} {ys:List s.ty} {u:Value} (hu:RelV P M φ α u) (h:newsA H s α=some ys):∃A c news,u=.slice A ys.length c∧RepL (RepC P φ s M) news ys∧(∀q,q<news.length→∃a,A=some a∧a.spot=none)∧∀a,A=some a→∀j v,news[j]?=some v→w.cell? (a.add j)=some v:=by
 unfold newsA at h
 split at h
 ·split at h
  ·rename_i t ys' e
   subst e
   simp only [injEq] at h
   subst h
   obtain ⟨_,cs,rfl,A,n,cap,vs,rfl,rfl,_,h3,h4⟩:=hu
   refine ⟨A,cap,vs,rfl,h4,fun q hq=>?_,fun a ha j v hj=>?_⟩
   ·obtain ⟨g,o,c,e,_⟩:=h3 q hq
    exact ⟨_,e,rfl⟩
   ·obtain ⟨g,o,c,e,e2,e3⟩:=h3 j (List.getElem?_eq_some_iff.1 hj).1
    rw [ha] at e
    obtain rfl:=inj e
    obtain ⟨t,fr,e4⟩:=hc.over _ _ e2
    rw [addz]
    simp [World.cell?,e4,e3,hj]
  ·cases h
 ·simp only [injEq] at h
  subst h
  obtain ⟨_,cs,rfl,h2⟩:=hu
  simp only [RepC] at h2
  subst h2
  exact ⟨none,0,[],rfl,rfl,fun q hq=>(by cases hq),fun a ha=>(by cases ha)⟩
 ·split at h
  ·rename_i L _ e t ys' hl
   split at h
   ·rename_i e
    subst e
    simp only [injEq] at h
    subst h
    obtain ⟨rfl,_⟩:=hu
    obtain ⟨hf,A,cap,h1,h2⟩:=hc.items L _ (look_mem hl)
    rcases h2 with ⟨_,rfl,_⟩|⟨g,c,_,rfl,⟨fr,h4,_⟩,h5,h6,h7,h8⟩
    ·exact ⟨A,cap,[],h1,rfl,fun q hq=>(by cases hq),fun a ha j v hj=>(by simp at hj)⟩
    ·refine ⟨_,cap,_,h1,h8,fun q hq=>⟨_,rfl,rfl⟩,fun a ha j v hj=>?_⟩
     obtain rfl:=inj ha
     rw [addz,Nat.zero_add]
     have hj':=(List.getElem?_eq_some_iff.1 hj).1
     rw [List.getElem?_take_of_lt (by rw [List.length_take] at hj';omega)] at hj
     simp [World.cell?,h4]
     simpa using hj
   ·cases h
  ·cases h
 ·cases h
theorem run_app0 {t ty e:TypeId} {A A':Option Addr} {n c m:Nat} (ht:P.underlying t=some (.slice e)) (hsz:∃k,szB P e k=true) (hn:n≤c) (w:World):(Builtin.append_ #[t,t] ty #[.slice A n c,.slice A' 0 m]).run P w=.ok (.slice A n c) w:=by
 obtain ⟨k,hk⟩:=hsz
 have hf:(Builtin.firstCells k 0 (.slice A' 0 m)).run P w=.ok #[] w:=by
  cases A' with
  | none=>simp [Builtin.firstCells]
  | some a=>simp [Builtin.firstCells,loadCells,loadCellsFrom]
 cases A with
 | none=>simp [Builtin.append_,run_underlying ht,szB_ok hk,Builtin.lenOf,hn,hf]
 | some a=>simp [Builtin.append_,run_underlying ht,szB_ok hk,Builtin.lenOf,hn,hf,storeCells]
def appA (P:Program) (n0:Nat) (ρ:AEnv) (H:AStore) (T:TypeId) (N:Nat):AVal→AVal→Option (AVal×AStore×List Prop)
 | .row L,γ=>match look H L,slB P T with
  | some (.row e s xs),some e'=>if Nat.beq e e'&&rowB P e s&&freshB n0 N ρ H then match newsA H s γ with
   | some ys=>some (.row N,(N,.row e s (xs++ys))::remL H L,[(xs.length+ys.length)*bytesB P e≤140737488355328,xs.length+ys.length≤maxLen])
   | none=>none
   else none
  | _,_=>none
 | .v (.nl _) _,γ=>match slB P T with
  | some e=>if rowB P e (shOf P false 20 e)&&freshB n0 N ρ H then match newsA H (shOf P false 20 e) γ with
   | some ys=>some (.row N,(N,.row e (shOf P false 20 e) ys)::H,[ys.length*bytesB P e≤140737488355328,ys.length≤maxLen])
   | none=>none
   else none
  | none=>none
 | _,_=>none
theorem repL_app {α:Type} {R:List Value→α→Prop}:∀{vs us:List Value} {xs ys:List α},RepL R vs xs→RepL R us ys→RepL R (vs++us) (xs++ys)
 | vs,us,[],ys,h,h2=>by cases h;exact h2
 | vs,us,x::xs,ys,⟨c,r,e,h1,h2⟩,h3=>by subst e;exact ⟨c,r++us,by simp,h1,repL_app h2 h3⟩
theorem run_app {t ty e:TypeId} {s:Sh} {A:Option Addr} {o:Option Nat} {n cap:Nat} {xs ys:List s.ty} {olds:List Value} (hT:P.underlying t=some (.slice e)) (hb:rowB P e s=true) (hc:Core P b M φ ξ H w)
  (hx:RepL (RepC P φ s M) olds xs) (hxl:xs.length=n) (hcap:n≤cap) (hcm:cap≤maxLen)
  (hold:(cap=0∧o=none)∨∃g c,o=some g∧A=some ⟨g,0,none⟩∧w.heap[g]?=some (.cells c e (0,0))∧c.size=cap*s.size∧c.toList.take (n*s.size)=olds)
  {B:Option Addr} {m:Nat} {news:List Value} (hy:RepL (RepC P φ s M) news ys) (hB:∀q,q<news.length→∃a,B=some a∧a.spot=none) (hnews:∀a,B=some a→∀j v,news[j]?=some v→w.cell? (a.add j)=some v)
  (h1:(n+ys.length)*bytesB P e≤140737488355328) (h2:n+ys.length≤maxLen) :
  ∃A' cap' w',(Builtin.append_ #[t,t] ty #[.slice A n cap,.slice B ys.length m]).run P w=.ok (.slice A' (n+ys.length) cap') w'∧w'.os=w.os∧w'.tape=w.tape∧w'.output=w.output∧w.heap.size≤w'.heap.size ∧
   (∀k,k<w.heap.size→o≠some k→w'.heap[k]?=w.heap[k]?) ∧
   ((ys=[]∧A'=A∧cap'=cap∧w'=w)∨∃g c,A'=some ⟨g,0,none⟩∧(g=w.heap.size∨o=some g)∧w'.heap[g]?=some (.cells c e (0,0))∧n+ys.length≤cap'∧cap'≤maxLen∧c.size=cap'*s.size∧RepL (RepC P φ s M) (c.toList.take ((n+ys.length)*s.size)) (xs++ys)):=by
 obtain ⟨i,z,hi,hz,hsz,hzs,h0,hf,hv,hp⟩:=rowB_ok hb
 have hby:bytesB P e=i.bytes:=by simp [bytesB,hi]
 rw [hby] at h1
 have hol:=RepL_len (fun c y hc=>rep_len hf hc) hx
 have hnl:=RepL_len (fun c y hc=>rep_len hf hc) hy
 have hrep:=repL_app hx hy
 rcases Nat.eq_zero_or_pos ys.length with hy0|hy0
 ·have hys:ys=[]:=List.eq_nil_of_length_eq_zero hy0
  subst hys
  exact ⟨A,cap,w,run_app0 hT ⟨s.size,by simp [szB,hi,hsz]⟩ hcap w,rfl,rfl,rfl,Nat.le_refl _,fun _ _ _=>rfl,.inl ⟨rfl,rfl,rfl,rfl⟩⟩
 ·obtain ⟨a,rfl,hsp⟩:=hB 0 (by rw [hnl];exact Nat.mul_pos hy0 h0)
  have hnews':=hnews a rfl
  have h63:n+ys.length≤9223372036854775807:=by simp only [maxLen] at h2;omega
  have fin:∀old,(w.drew.alloc (.cells (olds.toArray++news.toArray++Builtin.zeroCells z.cells (grownCap w (n+ys.length) old e-(n+ys.length))) e)).heap[w.heap.size]?=some (.cells (olds.toArray++news.toArray++Builtin.zeroCells z.cells (grownCap w (n+ys.length) old e-(n+ys.length))) e (0,0)):=fun old=>heap_alloc_new w.drew _
  have big:∀old,(olds.toArray++news.toArray++Builtin.zeroCells z.cells (grownCap w (n+ys.length) old e-(n+ys.length))).size=grownCap w (n+ys.length) old e*s.size ∧
    RepL (RepC P φ s M) ((olds.toArray++news.toArray++Builtin.zeroCells z.cells (grownCap w (n+ys.length) old e-(n+ys.length))).toList.take ((n+ys.length)*s.size)) (xs++ys):=by
   intro old
   have hge:=grownCap_ge w (n+ys.length) old e
   constructor
   ·simp only [Array.size_append,List.size_toArray,size_zeroCells,hzs,hol,hnl,hxl,← Nat.add_mul]
    congr 1
    omega
   ·have:(olds.toArray++news.toArray++Builtin.zeroCells z.cells (grownCap w (n+ys.length) old e-(n+ys.length))).toList.take ((n+ys.length)*s.size)=olds++news:=by
     simp only [Array.toList_append]
     rw [List.take_append_of_le_length (by simp [hol,hnl,hxl,Nat.add_mul]),List.take_of_length_le (by simp [hol,hnl,hxl,Nat.add_mul])]
    rw [this]
    exact hrep
  have grow:∀old,∃cap' w',w'=w.drew.alloc (.cells (olds.toArray++news.toArray++Builtin.zeroCells z.cells (grownCap w (n+ys.length) old e-(n+ys.length))) e)∧cap'=grownCap w (n+ys.length) old e∧w'.os=w.os∧w'.tape=w.tape∧w'.output=w.output∧w.heap.size≤w'.heap.size∧(∀k,k<w.heap.size→w'.heap[k]?=w.heap[k]?)∧n+ys.length≤cap'∧cap'≤maxLen :=
   fun old=>⟨_,_,rfl,rfl,rfl,rfl,rfl,by simp,fun k hk=>heap_alloc_old w.drew _ hk,grownCap_ge _ _ _ _,grownCap_le_maxLen w (n+ys.length) old e h2⟩
  rcases hold with ⟨hc0,rfl⟩|⟨g,c,rfl,rfl,hg,hcs,htk⟩
  ·have hn0:n=0:=by omega
   have hx0:xs=[]:=List.eq_nil_of_length_eq_zero (by omega)
   have ho0:olds=[]:=List.eq_nil_of_length_eq_zero (by rw [hol,hx0];simp)
   subst hc0
   cases A with
   | none =>
    have hr:=run_append_nil (P:=P) w t ty e i z hT hi hz a ys.length m news (by rw [hnl,hsz]) hnews' hy0 (by omega) (by rw [hn0,Nat.zero_add] at h1;omega)
    obtain ⟨cap',w',rfl,rfl,g1,g2,g3,g4,g5,g6,g7⟩:=grow 0
    refine ⟨_,_,_,?_,g1,g2,g3,g4,fun k hk _=>g5 k hk,.inr ⟨w.heap.size,_,rfl,.inl rfl,fin 0,g6,g7,(big 0).1,(big 0).2⟩⟩
    subst hn0
    rw [hr]
    subst ho0
    simp
   | some b0 =>
    have hr:=run_append_grow (P:=P) w t ty e i z hT hi hz b0 n 0 olds (by rw [hol,hsz,hxl]) (by subst ho0;intro j v hj;simp at hj) a ys.length m news (by rw [hnl,hsz]) hnews' (by omega) (by omega) (growslice_fits (by omega) h1)
    obtain ⟨cap',w',rfl,rfl,g1,g2,g3,g4,g5,g6,g7⟩:=grow 0
    exact ⟨_,_,_,hr,g1,g2,g3,g4,fun k hk _=>g5 k hk,.inr ⟨w.heap.size,_,rfl,.inl rfl,fin 0,g6,g7,(big 0).1,(big 0).2⟩⟩
  ·by_cases hroom:n+ys.length≤cap
   ·have hfit:n*i.size+news.length≤c.size:=by rw [hnl,hcs,hsz,← Nat.add_mul];exact Nat.mul_le_mul_right _ hroom
    have hr:=run_append_room (P:=P) w t ty e i hT hi g n cap c hg a ys.length m news (by rw [hnl,hsz]) hnews' (RepL_one (fun c y hc=>rep_one hc) hy) hroom hfit
    refine ⟨_,_,_,hr,rfl,rfl,rfl,by simp,fun k _ hk=>setRow_other w g k _ (fun e=>hk (by simp [e])),.inr ⟨g,_,rfl,.inr rfl,setRow_heap w g c _ e _ hg,hroom,hcm,?_,?_⟩⟩
    ·simp only [List.size_toArray,List.length_append,List.length_take,List.length_drop,Array.length_toList]
     omega
    ·rw [hsz,htk]
     have:(olds++news++c.toList.drop (n*s.size+news.length)).take ((n+ys.length)*s.size)=olds++news:=by
      rw [List.take_append_of_le_length (by simp [hol,hnl,hxl,Nat.add_mul]),List.take_of_length_le (by simp [hol,hnl,hxl,Nat.add_mul])]
     simp only
     rw [this]
     exact hrep
   ·have holds:∀j u,olds[j]?=some u→w.cell? ((⟨g,0,none⟩:Addr).add j)=some u:=by
     intro j u hj
     rw [addz,Nat.zero_add]
     have hj':=(List.getElem?_eq_some_iff.1 hj).1
     rw [← htk,List.getElem?_take_of_lt (by rw [← htk,List.length_take] at hj';omega)] at hj
     simp [World.cell?,hg]
     simpa using hj
    have hr:=run_append_grow (P:=P) w t ty e i z hT hi hz ⟨g,0,none⟩ n cap olds (by rw [hol,hsz,hxl]) holds a ys.length m news (by rw [hnl,hsz]) hnews' (by omega) (by omega) (growslice_fits (by omega) h1)
    obtain ⟨cap',w',rfl,rfl,g1,g2,g3,g4,g5,g6,g7⟩:=grow cap
    exact ⟨_,_,_,hr,g1,g2,g3,g4,fun k hk _=>g5 k hk,.inr ⟨w.heap.size,_,rfl,.inl rfl,fin cap,g6,g7,(big cap).1,(big cap).2⟩⟩
theorem does_app {T ty:TypeId} {x y:Operand} {α γ β:AVal} {N:Nat} {H':AStore} {C:List Prop} {dst pos after guard} (hx:evA P ρ T x=some α) (hy:evA P ρ T y=some γ) (hb:appA P n0 ρ H T N α γ=some (β,H',C)) (hC:AllP C) :
  Does P b ρ H ⟨dst,.call ⟨.builtin .append,#[x,y],#[T,T]⟩,ty,pos,after,guard⟩ β H' N:=by
 intro M φ ξ w a hc he
 have hu:=evA_ok he hx
 have hv:=evA_ok he hy
 have exec:∀{r:Value} {w':World},(Builtin.append_ #[T,T] ty #[a.eval x,a.eval y]).run P w=.ok r w'→(execOp a.eval ⟨dst,.call ⟨.builtin .append,#[x,y],#[T,T]⟩,ty,pos,after,guard⟩).run P w=.ok (.value r) w':=by
  intro r w' h
  simp [execOp,resolve,invoke,builtin,h]
 unfold appA at hb
 split at hb
 ·rename_i L
  split at hb
  ·rename_i e s xs e' hl hT
   split at hb
   ·rename_i hh
    simp only [Bool.and_eq_true] at hh
    obtain ⟨⟨k1,k2⟩,k3⟩:=hh
    have k1:=Nat.eq_of_beq_eq_true k1
    subst k1
    split at hb
    ·rename_i ys hny
     simp only [injEq,Prod.mk.injEq] at hb
     obtain ⟨rfl,rfl,rfl⟩:=hb
     obtain ⟨c1,c2,_⟩:=hC
     obtain ⟨B,m,news,e1,e2,e3,e4⟩:=newsA_ok hc hv hny
     obtain ⟨e5,_⟩:=hu
     obtain ⟨hf,A,cap,h1,h2⟩:=hc.items L _ (look_mem hl)
     obtain ⟨i,z,_,_,_,_,h0,_,_,hp⟩:=rowB_ok k2
     obtain ⟨H1,H2,hH,_,hrem⟩:=look_split hl
     rw [e5,h1,e1] at exec
     have olds:∃olds,RepL (RepC P φ s M) olds xs∧xs.length≤cap∧cap≤maxLen∧((cap=0∧ξ L=none)∨∃g c,ξ L=some g∧A=some ⟨g,0,none⟩∧w.heap[g]?=some (.cells c e (0,0))∧c.size=cap*s.size∧c.toList.take (xs.length*s.size)=olds):=by
      rcases h2 with ⟨h2,rfl,rfl,rfl⟩|⟨g,c,h2,rfl,⟨fr,h4,hfr⟩,h5,h6,h7,h8⟩
      ·exact ⟨[],rfl,Nat.le_refl _,by simp [maxLen],.inl ⟨rfl,h2⟩⟩
      ·obtain rfl:fr=(0,0):=hfr.elim id fun q=>absurd q.1 (rowB_mb k2)
       exact ⟨_,h8,h5,h6,.inr ⟨g,c,h2,rfl,h4,h7,rfl⟩⟩
     obtain ⟨olds,o1,o2,o3,o4⟩:=olds
     obtain ⟨A',cap',w',r1,r2,r3,r4,r5,r6,r7⟩:=run_app (ty:=ty) (slB_ok hT) k2 hc o1 rfl o2 o3 o4 (m:=m) e2 e3 e4 c1 c2
     rw [hrem]
     subst hH
     rcases r7 with ⟨rfl,rfl,rfl,rfl⟩|⟨g,c,rfl,q2,q3,q4,q5,q6,q7⟩
     ·refine ⟨M,upd φ N _,upd ξ N (ξ L),w',_,.inl (exec r1),?_,he.labs (fresh_env k3 _ _),⟨Fz.le_refl _,fun l hl=>upd_ne (by omega)⟩,by rw [RelV,upd_same];exact ⟨rfl,rfl⟩⟩
      refine hc.repl k3 r2 r3 r4 r5 r6 ⟨hf,A',cap',by simp,?_⟩ (fun g hg=>.inr hg)
      rcases h2 with ⟨h2,rfl,rfl,rfl⟩|⟨g,c,h2,rfl,h4,h5,h6,h7,h8⟩
      ·exact .inl ⟨h2,rfl,rfl,rfl⟩
      ·refine .inr ⟨g,c,h2,rfl,by simpa using h4,by simpa using h5,h6,h7,?_⟩
       rw [List.append_nil]
       exact rep_pers (s:=.lst s) hp h8
     ·refine ⟨M,upd φ N _,upd ξ N (some g),w',_,.inl (exec r1),?_,he.labs (fresh_env k3 _ _),⟨Fz.le_refl _,fun l hl=>upd_ne (by omega)⟩,by rw [RelV,upd_same];exact ⟨rfl,rfl⟩⟩
      refine hc.repl k3 r2 r3 r4 r5 r6 ⟨hf,_,cap',by simp,.inr ⟨g,c,rfl,rfl,⟨_,q3,.inl rfl⟩,by simpa using q4,q5,q6,?_⟩⟩ (fun g' hg=>?_)
      ·rw [List.length_append]
       exact rep_pers (s:=.lst s) hp q7
      ·obtain rfl:=inj hg
       rcases q2 with h|h
       ·exact .inl (Nat.le_of_eq h.symm)
       ·exact .inr h
    ·cases hb
   ·cases hb
  ·cases hb
 ·split at hb
  ·rename_i e hT
   split at hb
   ·rename_i hh
    simp only [Bool.and_eq_true] at hh
    obtain ⟨k2,k3⟩:=hh
    split at hb
    ·rename_i ys hny
     simp only [injEq,Prod.mk.injEq] at hb
     obtain ⟨rfl,rfl,rfl⟩:=hb
     obtain ⟨c1,c2,_⟩:=hC
     obtain ⟨B,m,news,e1,e2,e3,e4⟩:=newsA_ok hc hv hny
     obtain ⟨_,cs,e5,h2⟩:=hu
     simp only [RepC] at h2
     subst h2
     obtain ⟨i,z,_,_,_,_,h0,hf,_,hp⟩:=rowB_ok k2
     have e6:a.eval x=.slice none 0 0:=e5
     rw [e6,e1] at exec
     obtain ⟨A',cap',w',r1,r2,r3,r4,r5,r6,r7⟩:=run_app (ty:=ty) (A:=none) (o:=none) (n:=0) (cap:=0) (xs:=[]) (olds:=[]) (slB_ok hT) k2 hc rfl rfl (Nat.le_refl _) (by simp [maxLen]) (.inl ⟨rfl,rfl⟩) (m:=m) e2 e3 e4 (by simpa using c1) (by simpa using c2)
     simp only [Nat.zero_add,List.nil_append] at r1 r7
     rcases r7 with ⟨rfl,rfl,rfl,rfl⟩|⟨g,c,rfl,q2,q3,q4,q5,q6,q7⟩
     ·refine ⟨M,upd φ N _,upd ξ N none,w',_,.inl (exec r1),?_,he.labs (fresh_env k3 _ _),⟨Fz.le_refl _,fun l hl=>upd_ne (by omega)⟩,by rw [RelV,upd_same];exact ⟨rfl,rfl⟩⟩
      exact hc.grow k3 r2 r3 r4 r5 (fun k hk=>r6 k hk (by simp)) ⟨hf,none,0,rfl,.inl ⟨rfl,rfl,rfl,rfl⟩⟩ (fun g hg=>by cases hg)
     ·refine ⟨M,upd φ N _,upd ξ N (some g),w',_,.inl (exec r1),?_,he.labs (fresh_env k3 _ _),⟨Fz.le_refl _,fun l hl=>upd_ne (by omega)⟩,by rw [RelV,upd_same];exact ⟨rfl,rfl⟩⟩
      refine hc.grow k3 r2 r3 r4 r5 (fun k hk=>r6 k hk (by simp)) ⟨hf,_,cap',rfl,.inr ⟨g,c,rfl,rfl,⟨_,q3,.inl rfl⟩,q4,q5,q6,rep_pers (s:=.lst _) hp q7⟩⟩ (fun g' hg=>?_)
      obtain rfl:=inj hg
      rcases q2 with h|h
      ·exact Nat.le_of_eq h.symm
      ·cases h
    ·cases hb
   ·cases hb
  ·cases hb
 ·cases hb
end
def φ0:Nat→Value:=fun _=>undef
def Pure (P:Program) (f:FuncId) (l:List AVal) (β:AVal):Prop:=Enters P f∧∀(w:World) (M:Fz) (us:List Value),Over M w→RelVs P M φ0 l us →
 Calls P f us.toArray w fun e w'=>∃M' v,e=.returned v∧Below w.heap.size w w'∧M.le M'∧(∀g,g<w.heap.size→M' g=M g)∧Over M' w'∧RelV P M' φ0 β v
inductive PSh where
 | v (s:Sh)
 | fp (s:Sh)
 | fn (a b:Sh) (p:a.ty→Option b.ty)
mutual
def AVal.flatB:AVal→Bool
 | .v s _=>s.flat
 | .tup l=>AVal.flatL l
 | .ifc _=>true
 | _=>false
def AVal.flatL:List AVal→Bool
 | []=>true
 | α::l=>α.flatB&&AVal.flatL l
end
def rslG (f:Nat→Option TV):(s:Sh)→s.ty→Option TV
 | .ref,L=>f L
 | .prod a b,x=>if (Sh.prod a b).pers then some ⟨.prod a b,x⟩ else match rslG f a x.1,rslG f b x.2 with
  | some y,some z=>some ⟨.prod y.1 z.1,(y.2,z.2)⟩
  | _,_=>none
 | .st s,x=>match rslG f s x with
  | some y=>some ⟨.st y.1,y.2⟩
  | none=>none
 | .oref,_=>some ⟨.any,()⟩
 | s,x=>if s.pers then some ⟨s,x⟩ else none
def rslR (H:AStore) (L:Nat):Option TV:=match look H L with
 | some (.row _ s xs)=>if s.pers then some ⟨.sl s,xs⟩ else none
 | _=>none
def rslV (H:AStore) (L:Nat):Option TV:=match look H L with
 | some (.row _ s xs)=>if s.pers then some ⟨.sl s,xs⟩ else none
 | some (.var _ s x)=>if s.pers then some ⟨.pt s,x⟩ else match rslG (rslR H) s x with
  | some y=>if y.1.fixed then some ⟨.pt y.1,y.2⟩ else none
  | none=>none
 | _=>none
def rslv (H:AStore) (s:Sh) (x:s.ty):Option TV:=rslG (rslV H) s x
def rsl (H:AStore) (v:TV):Option TV:=if v.1.pers then some v else rslv H v.1 v.2
def lendA (H:AStore):AVal→Option (AVal×Bool)
 | .v s x=>if s.pers then some (.v s x,false) else match rslv H s x with
  | some y=>if y.1.fixed&&(s.agg==y.1.agg) then some (.v y.1 y.2,true) else none
  | none=>none
 | .fp s x=>if s.pers then some (.fp s x,false) else none
 | .nilp=>some (.nilp,false)
 | .row L=>match look H L with
  | some (.row _ s xs)=>if s.pers then some (.v (.sl s) xs,true) else none
  | _=>none
 | .avw L p off n=>match look H L with
  | some it=>match getP it.tv.1 it.tv.2 p with
   | some ⟨.arr m s,xs⟩=>if rowOk it p&&noI p&&Nat.beq (offP it.tv.1 p) off&&s.fixed&&s.pers&&Nat.beq m n then some (.v (.sl s) xs,true) else none
   | _=>none
  | none=>none
 | .ptr L p off=>match look H L with
  | some it=>match getP it.tv.1 it.tv.2 p with
   | some v=>match rsl H v with
    | some y=>if rowOk it p&&noI p&&Nat.beq (offP it.tv.1 p) off&&v.1.fixed&&y.1.fixed then some (.fp y.1 y.2,true) else none
    | none=>none
   | none=>none
  | none=>none
 | _=>none
def lendL (H:AStore):List AVal→Option (List AVal×Bool)
 | []=>some ([],false)
 | α::l=>match lendA H α,lendL H l with
  | some (β,z),some (r,z')=>some (β::r,z||z')
  | _,_=>none
def coeP:PSh→AVal→Option AVal
 | .v t,.v s x=>if t.fixed&&(s.agg==t.agg) then match coeS s t x with
  | some y=>some (.v t y)
  | none=>none
  else none
 | .fp t,.fp s x=>if t.fixed then match coeS s t x with
  | some y=>some (.fp t y)
  | none=>none
  else none
 | _,_=>none
def argA (P:Program) (H:AStore):PSh→AVal→Option (AVal×Bool×List Prop)
 | .fn a b p,.clo f l=>match lendL H l with
  | some (l',z)=>if a.pers&&b.pers&&a.fixed&&b.fixed then some (.v (.fn a b) p,z,[Enters P f,∀x y,p x=some y→Pure P f (.v a x::l') (.v b y)]) else none
  | none=>none
 | ps,α=>match lendA H α with
  | some (β,z)=>match coeP ps β with
   | some γ=>some (γ,z,[])
   | none=>none
  | none=>none
def argL (P:Program) (H:AStore):List PSh→List AVal→Option (List AVal×Bool×List Prop)
 | [],[]=>some ([],false,[])
 | ps::r,α::l=>match argA P H ps α,argL P H r l with
  | some (β,z,C),some (q,z',C')=>some (β::q,z||z',C++C')
  | _,_=>none
 | _,_=>none
section
variable {P:Program} {n0:Nat} {b:Base n0} {M:Fz} {φ:Nat→Value} {ξ:Nat→Option Nat} {H:AStore} {w:World} {ρ:AEnv}
open Classical in
noncomputable def lentM (M:Fz) (ξ:Nat→Option Nat) (H:AStore) (w:World):Fz:=fun g=>match M g with
 | some c=>some c
 | none=>if ∃L it,(L,it)∈H∧ξ L=some g then (match w.heap[g]? with|some (.cells c _ _)=>some c|_=>none) else none
theorem lentM_le:M.le (lentM M ξ H w):=fun g c h=>by simp [lentM,h]
theorem lentM_over (ho:Over M w):Over (lentM M ξ H w) w:=by
 refine ⟨fun g c h=>?_,ho.gl.mono lentM_le⟩
 unfold lentM at h
 split at h
 ·rename_i c' hM
  simp only [injEq] at h
  subst h
  exact ho g _ hM
 ·split at h
  ·split at h
   ·rename_i c' t fr hw
    simp only [injEq] at h
    subst h
    exact ⟨t,fr,hw⟩
   ·cases h
  ·cases h
theorem lentM_foot {L:Nat} {it:AItem} {g:Nat} {c:Array Value} {t:TypeId} {fr:Nat×Nat} (hm:M g=none) (hi:(L,it)∈H) (hg:ξ L=some g) (hw:w.heap[g]?=some (.cells c t fr)):lentM M ξ H w g=some c:=by
 have:∃L it,(L,it)∈H∧ξ L=some g:=⟨L,it,hi,hg⟩
 simp [lentM,hm,hw]
 exact ⟨L,⟨it,hi⟩,hg⟩
theorem labs_pers {s:Sh} {x:s.ty} (h:s.pers=true):s.labs x=[]:=by
 induction s with
 | prod a b iha ihb =>
  simp only [Sh.pers,Bool.and_eq_true] at h
  simp [Sh.labs,iha h.1,ihb h.2]
 | st s ih=>exact ih h
 | arr n s ih=>exact if_pos h
 | lst s ih=>exact if_pos h
 | ref=>simp [Sh.pers] at h
 | oref=>simp [Sh.pers] at h
 | _=>rfl
theorem row_lent (hc:Core P b M φ ξ H w) {L:Nat} {e:TypeId} {s:Sh} {xs:List s.ty} (hl:look H L=some (.row e s xs)) (hp:s.pers=true):RepC P φ0 (.sl s) (lentM M ξ H w) [φ L] xs∧s.fixed=true:=by
 obtain ⟨hf,A,cap,h1,h2⟩:=hc.items L _ (look_mem hl)
 refine ⟨?_,hf⟩
 rw [h1]
 rcases h2 with ⟨_,rfl,rfl,rfl⟩|⟨g,c,h3,rfl,⟨fr,h5,_⟩,h6,h7,h8,h9⟩
 ·exact ⟨none,0,0,[],rfl,rfl,⟨Nat.le_refl _,by simp [maxLen]⟩,Cl.nil _ _,rfl⟩
 ·refine ⟨_,_,cap,_,rfl,rfl,⟨h6,h7⟩,?_,rep_pers (s:=.lst s) hp (rep_mono lentM_le h9)⟩
  intro q hq
  refine ⟨g,0,c,rfl,lentM_foot (hc.feet L _ g (look_mem hl) h3).2 (look_mem hl) h3 h5,?_⟩
  rw [Nat.zero_add,List.getElem?_take_of_lt (by rw [List.length_take] at hq;omega)]
  simp
theorem rslG_ok (hc:Core P b M φ ξ H w) {f:Nat→Option TV} (hf:∀L y,f L=some y→(φ L).oneCell'=true→RepC P φ0 y.1 (lentM M ξ H w) [φ L] y.2∧y.1.pers=true):∀{s:Sh} {x:s.ty} {y:TV} {cs:List Value},rslG f s x=some y→RepC P φ s M cs x→RepC P φ0 y.1 (lentM M ξ H w) cs y.2∧y.1.pers=true:=by
 intro s
 have pers:∀{s:Sh} {x:s.ty} {y:TV} {cs:List Value},(if s.pers then some (⟨s,x⟩:TV) else none)=some y→RepC P φ s M cs x→RepC P φ0 y.1 (lentM M ξ H w) cs y.2∧y.1.pers=true:=by
  intro s x y cs h hr
  split at h
  ·rename_i hp
   simp only [injEq] at h
   subst h
   exact ⟨rep_pers hp (rep_mono lentM_le hr),hp⟩
  ·cases h
 induction s with
 | ref =>
  intro x y cs h hr
  obtain ⟨rfl,h1⟩:=hr
  exact hf _ _ h h1
 | prod a b iha ihb =>
  intro x y cs h hr
  simp only [rslG] at h
  split at h
  ·rename_i hp
   simp only [injEq] at h
   subst h
   exact ⟨rep_pers hp (rep_mono lentM_le hr),hp⟩
  ·split at h
   ·rename_i y1 z1 h1 h2
    simp only [injEq] at h
    subst h
    obtain ⟨c1,c2,rfl,k1,k2⟩:=hr
    obtain ⟨g1,g2⟩:=iha h1 k1
    obtain ⟨g3,g4⟩:=ihb h2 k2
    exact ⟨⟨c1,c2,rfl,g1,g3⟩,by simp [Sh.pers,g2,g4]⟩
   ·cases h
 | st s ih =>
  intro x y cs h hr
  simp only [rslG] at h
  split at h
  ·rename_i y1 h1
   simp only [injEq] at h
   subst h
   obtain ⟨g1,g2⟩:=ih h1 hr
   exact ⟨g1,g2⟩
  ·cases h
 | oref =>
  intro x y cs h hr
  simp only [rslG,injEq] at h
  subst h
  obtain ⟨v,h1,rfl,_⟩:=hr
  exact ⟨⟨v,h1,rfl⟩,rfl⟩
 | _=>intro x y cs h hr;exact pers h hr
theorem rslR_ok (hc:Core P b M φ ξ H w):∀L y,rslR H L=some y→RepC P φ0 y.1 (lentM M ξ H w) [φ L] y.2∧y.1.pers=true:=by
 intro L y h
 unfold rslR at h
 split at h
 ·rename_i e s xs hl
  split at h
  ·rename_i hp
   simp only [injEq] at h
   subst h
   exact ⟨(row_lent hc hl hp).1,hp⟩
  ·cases h
 ·cases h
theorem rslV_ok (hc:Core P b M φ ξ H w):∀L y,rslV H L=some y→RepC P φ0 y.1 (lentM M ξ H w) [φ L] y.2∧y.1.pers=true:=by
 intro L y h
 have vr:∀{T:TypeId} {s:Sh} {x:s.ty} {y:TV},look H L=some (.var T s x)→(∀cs,RepC P φ s M cs x→RepC P φ0 y.1 (lentM M ξ H w) cs y.2)→RepC P φ0 (.pt y.1) (lentM M ξ H w) [φ L] y.2:=by
  intro T s x y hl hk
  obtain ⟨_,g,c,h1,h2,h3,h4⟩:=hc.items L _ (look_mem hl)
  refine ⟨g,0,c.toList,by rw [h1],?_,hk _ h4⟩
  intro q hq
  refine ⟨g,0,c,rfl,lentM_foot (hc.feet L _ g (look_mem hl) h2).2 (look_mem hl) h2 h3,?_⟩
  rw [Nat.zero_add,Array.getElem?_toList]
 unfold rslV at h
 split at h
 ·rename_i e s xs hl
  split at h
  ·rename_i hp
   simp only [injEq] at h
   subst h
   exact ⟨(row_lent hc hl hp).1,hp⟩
  ·cases h
 ·rename_i T s x hl
  split at h
  ·rename_i hp
   simp only [injEq] at h
   subst h
   exact ⟨vr (y:=⟨s,x⟩) hl fun cs hcs=>rep_pers hp (rep_mono lentM_le hcs),hp⟩
  ·split at h
   ·rename_i y1 h1
    split at h
    ·simp only [injEq] at h
     subst h
     have k:=fun cs hcs=>rslG_ok (cs:=cs) hc (fun L y h _=>rslR_ok hc L y h) h1 hcs
     have hp:y1.1.pers=true:=by
      obtain ⟨_,g,c,_,_,_,h4⟩:=hc.items L _ (look_mem hl)
      exact (k _ h4).2
     exact ⟨vr (y:=y1) hl fun cs hcs=>(k cs hcs).1,hp⟩
    ·cases h
   ·cases h
 ·cases h
theorem rslv_ok (hc:Core P b M φ ξ H w) {s:Sh} {x:s.ty} {y:TV} {cs:List Value} (h:rslv H s x=some y) (hr:RepC P φ s M cs x):RepC P φ0 y.1 (lentM M ξ H w) cs y.2∧y.1.pers=true:=rslG_ok hc (fun L y h _=>rslV_ok hc L y h) h hr
theorem rslG_mono {f f':Nat→Option TV} (hf:∀L y,f L=some y→f' L=some y):∀{s:Sh} {x:s.ty} {y:TV},rslG f s x=some y→rslG f' s x=some y:=by
 intro s
 induction s with
 | ref=>intro x y h;exact hf _ _ h
 | prod a b iha ihb =>
  intro x y h
  simp only [rslG] at h⊢
  split
  ·rename_i hp;rw [if_pos hp] at h;exact h
  ·rename_i hp
   rw [if_neg hp] at h
   split at h
   ·rename_i y1 z1 h1 h2
    rw [iha h1,ihb h2]
    exact h
   ·cases h
 | st s ih =>
  intro x y h
  simp only [rslG] at h⊢
  split at h
  ·rename_i y1 h1
   rw [ih h1]
   exact h
  ·cases h
 | _=>intro x y h;exact h
theorem rslR_sub {H H':AStore} (hs:∀L it,look H L=some it→look H' L=some it) (L:Nat) (y:TV) (h:rslR H L=some y):rslR H' L=some y:=by
 unfold rslR at h⊢
 split at h
 ·rename_i e s xs hl
  rw [hs _ _ hl]
  exact h
 ·cases h
theorem rslV_sub {H H':AStore} (hs:∀L it,look H L=some it→look H' L=some it) (L:Nat) (y:TV) (h:rslV H L=some y):rslV H' L=some y:=by
 unfold rslV at h⊢
 split at h
 ·rename_i e s xs hl
  rw [hs _ _ hl]
  exact h
 ·rename_i T s x hl
  rw [hs _ _ hl]
  simp only
  split at h
  ·rename_i hp;rw [if_pos hp];exact h
  ·rename_i hp
   rw [if_neg hp]
   split at h
   ·rename_i y1 h1
    rw [rslG_mono (rslR_sub hs) h1]
    exact h
   ·cases h
 ·cases h
theorem rslv_sub {H H':AStore} (hs:∀L it,look H L=some it→look H' L=some it) {s:Sh} {x:s.ty} {y:TV} (h:rslv H s x=some y):rslv H' s x=some y:=rslG_mono (rslV_sub hs) h
theorem rsl_ok (hc:Core P b M φ ξ H w) {v y:TV} {cs:List Value} (h:rsl H v=some y) (hr:RepC P φ v.1 M cs v.2):RepC P φ0 y.1 (lentM M ξ H w) cs y.2∧y.1.pers=true:=by
 unfold rsl at h
 split at h
 ·rename_i hp
  simp only [injEq] at h
  subst h
  exact ⟨rep_pers hp (rep_mono lentM_le hr),hp⟩
 ·exact rslv_ok hc h hr
theorem lendA_ok (hc:Core P b M φ ξ H w) {α β:AVal} {z:Bool} {u:Value} (h:lendA H α=some (β,z)) (hr:RelV P M φ α u):RelV P (lentM M ξ H w) φ0 β u∧(z=false→RelV P M φ0 β u)∧β.labs=[]:=by
 unfold lendA at h
 split at h
 ·split at h
  ·rename_i s x hp
   simp only [injEq,Prod.mk.injEq] at h
   obtain ⟨rfl,rfl⟩:=h
   obtain ⟨h1,cs,h2,h3⟩:=hr
   have h4:RelV P M φ0 (.v s x) u:=⟨h1,cs,h2,rep_pers hp h3⟩
   exact ⟨relV_mono lentM_le h4,fun _=>h4,by simp [AVal.labs,hp]⟩
  ·split at h
   ·rename_i y hy
    split at h
    ·rename_i hh
     simp only [Bool.and_eq_true,beq_iff_eq] at hh
     simp only [injEq,Prod.mk.injEq] at h
     obtain ⟨rfl,rfl⟩:=h
     obtain ⟨h1,cs,rfl,h3⟩:=hr
     obtain ⟨k1,k2⟩:=rslv_ok hc hy h3
     exact ⟨⟨hh.1,cs,by simp [mkV,hh.2],k1⟩,fun hz=>(by cases hz),by simp [AVal.labs,k2]⟩
    ·cases h
   ·cases h
 ·split at h
  ·rename_i s x hp
   simp only [injEq,Prod.mk.injEq] at h
   obtain ⟨rfl,rfl⟩:=h
   obtain ⟨h1,g,off,cs,h2,h3,h5⟩:=hr
   have h4:RelV P M φ0 (.fp s x) u:=⟨h1,g,off,cs,h2,h3,rep_pers hp h5⟩
   exact ⟨relV_mono lentM_le h4,fun _=>h4,by simp [AVal.labs,hp]⟩
  ·cases h
 ·simp only [injEq,Prod.mk.injEq] at h
  obtain ⟨rfl,rfl⟩:=h
  exact ⟨hr,fun _=>hr,rfl⟩
 ·split at h
  ·rename_i L _ e s xs hl
   split at h
   ·rename_i hp
    simp only [injEq,Prod.mk.injEq] at h
    obtain ⟨rfl,rfl⟩:=h
    obtain ⟨rfl,_⟩:=hr
    obtain ⟨k1,k2⟩:=row_lent hc hl hp
    exact ⟨⟨by simp [Sh.fixed,k2,hp],[φ L],rfl,k1⟩,fun hz=>(by cases hz),by simp [AVal.labs,Sh.pers,hp]⟩
   ·cases h
  ·cases h
 ·split at h
  ·rename_i L p off n _ it hl
   split at h
   ·rename_i m s xs hg
    split at h
    ·rename_i hh
     simp only [Bool.and_eq_true] at hh
     obtain ⟨⟨⟨⟨⟨k1,k2⟩,k3⟩,k4⟩,k5⟩,k6⟩:=hh
     simp only [injEq,Prod.mk.injEq] at h
     obtain ⟨rfl,rfl⟩:=h
     obtain ⟨hm,g,e1,rfl⟩:=hr
     obtain ⟨g',c,T,pre,cs,post,g1,g2,⟨fr,g3,_⟩,g4,g5,g6,_⟩:=place_ok hc hl k1 hg (okP_noI k2 hg)
     obtain rfl:=inj (g1.symm.trans e1)
     have k3:=Nat.eq_of_beq_eq_true k3
     have k6:=Nat.eq_of_beq_eq_true k6
     obtain ⟨q1,q2⟩:=g6
     refine ⟨⟨by simp [Sh.fixed,k4,k5],[_],rfl,some ⟨g',off,none⟩,n,n,cs,rfl,q1.trans k6,⟨Nat.le_refl _,hm⟩,?_,RepL.mono (fun c y hc=>rep_pers k5 (rep_mono lentM_le hc)) q2⟩,fun hz=>(by cases hz),by simp [AVal.labs,Sh.pers,k5]⟩
     intro q hq
     refine ⟨g',off,c,rfl,lentM_foot (hc.feet L _ g' (look_mem hl) g2).2 (look_mem hl) g2 g3,?_⟩
     rw [← Array.getElem?_toList,g4,← k3,← g5,List.append_assoc,List.getElem?_append_right (by omega),List.getElem?_append_left (by omega)]
     congr 1
     omega
    ·cases h
   ·cases h
  ·cases h
 ·split at h
  ·rename_i L p off _ it hl
   split at h
   ·rename_i v hg
    split at h
    ·rename_i y hy
     split at h
     ·rename_i hh
      simp only [Bool.and_eq_true] at hh
      obtain ⟨⟨⟨⟨k1,k2⟩,k3⟩,k4⟩,k5⟩:=hh
      simp only [injEq,Prod.mk.injEq] at h
      obtain ⟨rfl,rfl⟩:=h
      obtain ⟨g,e1,rfl⟩:=hr
      obtain ⟨g',c,T,pre,cs,post,g1,g2,⟨fr,g3,_⟩,g4,g5,g6,_⟩:=place_ok hc hl k1 hg (okP_noI k2 hg)
      obtain rfl:=inj (g1.symm.trans e1)
      have k3:=Nat.eq_of_beq_eq_true k3
      obtain ⟨q1,q2⟩:=rsl_ok hc hy g6
      refine ⟨⟨k5,g',off,cs,rfl,?_,q1⟩,fun hz=>(by cases hz),by simp [AVal.labs,q2]⟩
      intro q hq
      refine ⟨g',off,c,rfl,lentM_foot (hc.feet L _ g' (look_mem hl) g2).2 (look_mem hl) g2 g3,?_⟩
      rw [← Array.getElem?_toList,g4,← k3,← g5,List.append_assoc,List.getElem?_append_right (by omega),List.getElem?_append_left (by omega)]
      congr 1
      omega
     ·cases h
    ·cases h
   ·cases h
  ·cases h
 ·cases h
def rslWR (H:AStore) (L:Nat):Option TV:=match look H L with
 | none=>some ⟨.any,()⟩
 | _=>rslR H L
def rslW (H:AStore) (L:Nat):Option TV:=match look H L with
 | none=>some ⟨.any,()⟩
 | some (.var _ s x)=>if s.pers then some ⟨.pt s,x⟩ else match rslG (rslWR H) s x with
  | some y=>if y.1.fixed then some ⟨.pt y.1,y.2⟩ else none
  | none=>none
 | _=>rslV H L
theorem rslWR_ok (hc:Core P b M φ ξ H w) (L:Nat) (y:TV) (h:rslWR H L=some y) (h1:(φ L).oneCell'=true):RepC P φ0 y.1 (lentM M ξ H w) [φ L] y.2∧y.1.pers=true:=by
 unfold rslWR at h
 split at h
 ·simp only [injEq] at h
  subst h
  exact ⟨⟨_,h1,rfl⟩,rfl⟩
 ·exact rslR_ok hc L y h
theorem rslW_ok (hc:Core P b M φ ξ H w) (L:Nat) (y:TV) (h:rslW H L=some y) (h1:(φ L).oneCell'=true):RepC P φ0 y.1 (lentM M ξ H w) [φ L] y.2∧y.1.pers=true:=by
 have vr:∀{T:TypeId} {s:Sh} {x:s.ty} {y:TV},look H L=some (.var T s x)→(∀cs,RepC P φ s M cs x→RepC P φ0 y.1 (lentM M ξ H w) cs y.2)→RepC P φ0 (.pt y.1) (lentM M ξ H w) [φ L] y.2:=by
  intro T s x y hl hk
  obtain ⟨_,g,c,h1,h2,h3,h4⟩:=hc.items L _ (look_mem hl)
  refine ⟨g,0,c.toList,by rw [h1],?_,hk _ h4⟩
  intro q hq
  refine ⟨g,0,c,rfl,lentM_foot (hc.feet L _ g (look_mem hl) h2).2 (look_mem hl) h2 h3,?_⟩
  rw [Nat.zero_add,Array.getElem?_toList]
 unfold rslW at h
 split at h
 ·simp only [injEq] at h
  subst h
  exact ⟨⟨_,h1,rfl⟩,rfl⟩
 ·rename_i T s x hl
  split at h
  ·rename_i hp
   simp only [injEq] at h
   subst h
   exact ⟨vr (y:=⟨s,x⟩) hl fun cs hcs=>rep_pers hp (rep_mono lentM_le hcs),hp⟩
  ·split at h
   ·rename_i y1 h1
    split at h
    ·simp only [injEq] at h
     subst h
     have k:=fun cs hcs=>rslG_ok (cs:=cs) hc (rslWR_ok hc) h1 hcs
     have hp:y1.1.pers=true:=by
      obtain ⟨_,g,c,_,_,_,h4⟩:=hc.items L _ (look_mem hl)
      exact (k _ h4).2
     exact ⟨vr (y:=y1) hl fun cs hcs=>(k cs hcs).1,hp⟩
    ·cases h
   ·cases h
 ·exact rslV_ok hc L y h
def lendW (H:AStore):AVal→Option (AVal×Bool)
 | .ptr L p off=>match look H L with
  | some it=>match getP it.tv.1 it.tv.2 p with
   | some v=>match rslG (rslW H) v.1 v.2 with
    | some y=>if rowOk it p&&noI p&&Nat.beq (offP it.tv.1 p) off&&v.1.fixed&&y.1.fixed then some (.fp y.1 y.2,true) else none
    | none=>none
   | none=>none
  | none=>none
 | α=>lendA H α
def lendWL (H:AStore):List AVal→Option (List AVal×Bool)
 | []=>some ([],false)
 | α::l=>match lendW H α,lendWL H l with
  | some (β,z),some (r,z')=>some (β::r,z||z')
  | _,_=>none
def argW (P:Program) (H:AStore):PSh→AVal→Option (AVal×Bool×List Prop)
 | .fn a b p,.clo f l=>match lendWL H l with
  | some (l',z)=>if a.pers&&b.pers&&a.fixed&&b.fixed then some (.v (.fn a b) p,z,[Enters P f,∀x y,p x=some y→Pure P f (.v a x::l') (.v b y)]) else none
  | none=>none
 | _,_=>none
theorem lendW_ok (hc:Core P b M φ ξ H w) {α β:AVal} {z:Bool} {u:Value} (h:lendW H α=some (β,z)) (hr:RelV P M φ α u):RelV P (lentM M ξ H w) φ0 β u∧(z=false→RelV P M φ0 β u)∧β.labs=[]:=by
 unfold lendW at h
 split at h
 ·split at h
  ·rename_i L p off _ it hl
   split at h
   ·rename_i v hg
    split at h
    ·rename_i y hy
     split at h
     ·rename_i hh
      simp only [Bool.and_eq_true] at hh
      obtain ⟨⟨⟨⟨k1,k2⟩,k3⟩,k4⟩,k5⟩:=hh
      simp only [injEq,Prod.mk.injEq] at h
      obtain ⟨rfl,rfl⟩:=h
      obtain ⟨g,e1,rfl⟩:=hr
      obtain ⟨g',c,T,pre,cs,post,g1,g2,⟨fr,g3,_⟩,g4,g5,g6,_⟩:=place_ok hc hl k1 hg (okP_noI k2 hg)
      obtain rfl:=inj (g1.symm.trans e1)
      have k3:=Nat.eq_of_beq_eq_true k3
      obtain ⟨q1,q2⟩:=rslG_ok hc (rslW_ok hc) hy g6
      refine ⟨⟨k5,g',off,cs,rfl,?_,q1⟩,fun hz=>(by cases hz),by simp [AVal.labs,q2]⟩
      intro q hq
      refine ⟨g',off,c,rfl,lentM_foot (hc.feet L _ g' (look_mem hl) g2).2 (look_mem hl) g2 g3,?_⟩
      rw [← Array.getElem?_toList,g4,← k3,← g5,List.append_assoc,List.getElem?_append_right (by omega),List.getElem?_append_left (by omega)]
      congr 1
      omega
     ·cases h
    ·cases h
   ·cases h
  ·cases h
 ·exact lendA_ok hc h hr
theorem coeP_ok {ps:PSh} {α β:AVal} {N:Fz} {ψ:Nat→Value} {u:Value} (h:coeP ps α=some β) (hr:RelV P N ψ α u):RelV P N ψ β u:=by
 unfold coeP at h
 split at h
 ·split at h
  ·rename_i t s x hh
   simp only [Bool.and_eq_true,beq_iff_eq] at hh
   split at h
   ·rename_i y hy
    simp only [injEq] at h
    subst h
    obtain ⟨_,cs,rfl,hc⟩:=hr
    exact ⟨hh.1,cs,by simp [mkV,hh.2],coeS_ok hy hc⟩
   ·cases h
  ·cases h
 ·split at h
  ·rename_i t s x hh
   split at h
   ·rename_i y hy
    simp only [injEq] at h
    subst h
    obtain ⟨_,g,off,cs,h1,h2,h3⟩:=hr
    exact ⟨hh,g,off,cs,h1,h2,coeS_ok hy h3⟩
   ·cases h
  ·cases h
 ·cases h
theorem lendL_ok (hc:Core P b M φ ξ H w):∀{l l':List AVal} {z:Bool} {us:List Value},lendL H l=some (l',z)→RelVs P M φ l us→RelVs P (lentM M ξ H w) φ0 l' us∧(z=false→RelVs P M φ0 l' us)
 | [],l',z,us,h,hr=>by
  simp only [lendL,injEq,Prod.mk.injEq] at h
  obtain ⟨rfl,rfl⟩:=h
  exact ⟨hr,fun _=>hr⟩
 | α::l,l',z,us,h,hr=>by
  simp only [lendL] at h
  split at h
  ·rename_i β z1 r z2 h1 h2
   simp only [injEq,Prod.mk.injEq] at h
   obtain ⟨rfl,rfl⟩:=h
   obtain ⟨u,q,rfl,k1,k2⟩:=hr
   obtain ⟨g1,g2,_⟩:=lendA_ok hc h1 k1
   obtain ⟨g3,g4⟩:=lendL_ok hc h2 k2
   exact ⟨⟨u,q,rfl,g1,g3⟩,fun hz=>⟨u,q,rfl,g2 (by cases z1<;>simp_all),g4 (by cases z2<;>simp_all)⟩⟩
  ·cases h
theorem clo_ok {N:Fz} {f:FuncId} {l':List AVal} {us:List Value} {s t:Sh} {p:s.ty→Option t.ty} (hp:s.pers=true) (hq:t.pers=true) (h1:s.fixed=true) (h2:t.fixed=true) (hr:RelVs P N φ0 l' us) (h0:Enters P f) (h:∀x y,p x=some y→Pure P f (.v s x::l') (.v t y)):RelV P N φ0 (.v (.fn s t) p) (.func (.func f) #[] us.toArray):=by
 refine ⟨by simp [Sh.fixed,h1,h2,hp,hq],_,rfl,f,us.toArray,rfl,h0,fun w M' hle ho ca x hx y hy=>?_⟩
 have:=(h x y hy).2 w M' (mkV s ca::us) ho ⟨_,_,rfl,⟨h1,ca,rfl,hx⟩,relVs_mono hle hr⟩
 have e:(mkV s ca::us).toArray=#[mkV s ca]++us.toArray:=by simp
 rw [← e]
 refine this.mono ?_
 rintro e w' ⟨M2,v,rfl,g1,g2,g3,g4,_,cs,rfl,g5⟩
 exact ⟨M2,cs,rfl,g1,g2,g3,g4,g5⟩
theorem argA_ok (hc:Core P b M φ ξ H w) {ps:PSh} {α β:AVal} {z:Bool} {C:List Prop} {u:Value} (h:argA P H ps α=some (β,z,C)) (hC:AllP C) (hr:RelV P M φ α u):RelV P (lentM M ξ H w) φ0 β u∧(z=false→RelV P M φ0 β u):=by
 unfold argA at h
 split at h
 ·split at h
  ·rename_i l' z' hl
   split at h
   ·rename_i hh
    simp only [Bool.and_eq_true] at hh
    simp only [injEq,Prod.mk.injEq] at h
    obtain ⟨rfl,rfl,rfl⟩:=h
    obtain ⟨us,rfl,h2⟩:=hr
    obtain ⟨g1,g2⟩:=lendL_ok hc hl h2
    exact ⟨clo_ok hh.1.1.1 hh.1.1.2 hh.1.2 hh.2 g1 hC.1 hC.2.1,fun hz=>clo_ok hh.1.1.1 hh.1.1.2 hh.1.2 hh.2 (g2 hz) hC.1 hC.2.1⟩
   ·cases h
  ·cases h
 ·split at h
  ·rename_i β' z' hl
   split at h
   ·rename_i γ hγ
    simp only [injEq,Prod.mk.injEq] at h
    obtain ⟨rfl,rfl,rfl⟩:=h
    obtain ⟨g1,g2,_⟩:=lendA_ok hc hl hr
    exact ⟨coeP_ok hγ g1,fun hz=>coeP_ok hγ (g2 hz)⟩
   ·cases h
  ·cases h
theorem lendWL_ok (hc:Core P b M φ ξ H w):∀{l l':List AVal} {z:Bool} {us:List Value},lendWL H l=some (l',z)→RelVs P M φ l us→RelVs P (lentM M ξ H w) φ0 l' us∧(z=false→RelVs P M φ0 l' us)
 | [],l',z,us,h,hr=>by
  simp only [lendWL,injEq,Prod.mk.injEq] at h
  obtain ⟨rfl,rfl⟩:=h
  exact ⟨hr,fun _=>hr⟩
 | α::l,l',z,us,h,hr=>by
  simp only [lendWL] at h
  split at h
  ·rename_i β z1 r z2 h1 h2
   simp only [injEq,Prod.mk.injEq] at h
   obtain ⟨rfl,rfl⟩:=h
   obtain ⟨u,q,rfl,k1,k2⟩:=hr
   obtain ⟨g1,g2,_⟩:=lendW_ok hc h1 k1
   obtain ⟨g3,g4⟩:=lendWL_ok hc h2 k2
   exact ⟨⟨u,q,rfl,g1,g3⟩,fun hz=>⟨u,q,rfl,g2 (by cases z1<;>simp_all),g4 (by cases z2<;>simp_all)⟩⟩
  ·cases h
theorem argW_ok (hc:Core P b M φ ξ H w) {ps:PSh} {α β:AVal} {z:Bool} {C:List Prop} {u:Value} (h:argW P H ps α=some (β,z,C)) (hC:AllP C) (hr:RelV P M φ α u):RelV P (lentM M ξ H w) φ0 β u∧(z=false→RelV P M φ0 β u):=by
 unfold argW at h
 split at h
 ·split at h
  ·rename_i l' z' hl
   split at h
   ·rename_i hh
    simp only [Bool.and_eq_true] at hh
    simp only [injEq,Prod.mk.injEq] at h
    obtain ⟨rfl,rfl,rfl⟩:=h
    obtain ⟨us,rfl,h2⟩:=hr
    obtain ⟨g1,g2⟩:=lendWL_ok hc hl h2
    exact ⟨clo_ok hh.1.1.1 hh.1.1.2 hh.1.2 hh.2 g1 hC.1 hC.2.1,fun hz=>clo_ok hh.1.1.1 hh.1.1.2 hh.1.2 hh.2 (g2 hz) hC.1 hC.2.1⟩
   ·cases h
  ·cases h
 ·cases h
theorem RepL_cut {α:Type} {R:List Value→α→Prop} {sz:Nat} (hl:∀c x,R c x→c.length=sz):∀{n:Nat} {vs:List Value} {xs:List α},n≤xs.length→RepL R vs xs→RepL R (vs.take (n*sz)) (xs.take n)∧RepL R (vs.drop (n*sz)) (xs.drop n)
 | 0,vs,xs,_,h=>by simpa [RepL] using h
 | n+1,vs,[],hn,h=>by simp at hn
 | n+1,vs,x::xs,hn,h=>by
  obtain ⟨c,r,e,h1,h2⟩:=h
  subst e
  obtain ⟨k1,k2⟩:=RepL_cut hl (n:=n) (by simpa using hn) h2
  have hc:=hl c x h1
  refine ⟨⟨c,r.take (n*sz),?_,h1,k1⟩,?_⟩
  ·rw [Nat.succ_mul,Nat.add_comm,← hc,List.take_length_add_append]
  ·rw [Nat.succ_mul,Nat.add_comm,← List.drop_drop,← hc,List.drop_left,hc]
   exact k2
def argS (H:AStore):PSh→AVal→Option (AVal×Bool×List Prop)
 | ps,.sub L sz lo n=>match look H L with
  | some (.row _ s xs)=>if s.pers&&Nat.beq sz s.size then match coeP ps (.v (.sl s) ((xs.drop lo).take n)) with
   | some γ=>some (γ,true,[lo+n≤xs.length])
   | none=>none
   else none
  | _=>none
 | _,_=>none
theorem argS_ok (hc:Core P b M φ ξ H w) {ps:PSh} {α β:AVal} {z:Bool} {C:List Prop} {u:Value} (h:argS H ps α=some (β,z,C)) (hC:AllP C) (hr:RelV P M φ α u):RelV P (lentM M ξ H w) φ0 β u∧(z=false→RelV P M φ0 β u):=by
 unfold argS at h
 split at h
 ·split at h
  ·rename_i L sz lo n _ e s xs hl
   split at h
   ·rename_i hh
    rw [Bool.and_eq_true] at hh
    obtain ⟨hp,hz⟩:=hh
    have hz:=Nat.eq_of_beq_eq_true hz
    subst hz
    split at h
    ·rename_i γ hγ
     simp only [injEq,Prod.mk.injEq] at h
     obtain ⟨rfl,rfl,rfl⟩:=h
     refine ⟨coeP_ok hγ ?_,fun hz=>(by cases hz)⟩
     have hlo:lo+n≤xs.length:=hC.1
     obtain ⟨A,m',c',q1,q2,q3,B,rfl,q4,q5⟩:=hr
     obtain ⟨hf,A',cap,h1,h2⟩:=hc.items L _ (look_mem hl)
     rw [h1] at q1
     simp only [Value.slice.injEq] at q1
     obtain ⟨rfl,rfl,rfl⟩:=q1
     have hlen:((xs.drop lo).take n).length=n:=by simp;omega
     have hfx:Sh.fixed (.sl s)=true:=by simp [Sh.fixed,hf,hp]
     rcases Nat.eq_zero_or_pos n with hm|hm
     ·subst hm
      exact ⟨hfx,[_],rfl,B,0,cap-lo,[],rfl,by simp,⟨Nat.zero_le _,by omega⟩,Cl.nil _ _,by simp [RepL]⟩
     ·rcases h2 with ⟨_,rfl,rfl,rfl⟩|⟨g,c,h3,rfl,⟨fr,h5,_⟩,h6,h7,h8,h9⟩
      ·simp at hlo;omega
      ·have hB:=q4 (by omega)
       subst hB
       have h9:RepL (RepC P φ s M) (c.toList.take (xs.length*s.size)) xs:=h9
       have hfl:∀(c:List Value) (x:s.ty),RepC P φ s M c x→c.length=s.size:=fun c y hc=>rep_len hf hc
       have r2:=(RepL_cut hfl (n:=lo) (by omega) h9).2
       have r3:=(RepL_cut hfl (n:=n) (by simp;omega) r2).1
       refine ⟨hfx,[_],rfl,_,n,cap-lo,_,rfl,hlen,⟨by omega,by omega⟩,?_,RepL.mono (fun c y hc=>rep_pers hp (rep_mono lentM_le hc)) r3⟩
       intro q hq
       refine ⟨g,lo*s.size,c,?_,lentM_foot (hc.feet L _ g (look_mem hl) h3).2 (look_mem hl) h3 h5,?_⟩
       ·simp [Addr.add]
        exact fun h=>h.symm
       ·rw [List.length_take,List.length_drop,List.length_take] at hq
        have e1:n*s.size≤(xs.length-lo)*s.size:=Nat.mul_le_mul_right _ (by omega)
        have e2:lo*s.size+(xs.length-lo)*s.size=xs.length*s.size:=by rw [← Nat.add_mul];congr 1;omega
        rw [List.getElem?_take_of_lt (by omega),List.getElem?_drop,List.getElem?_take_of_lt (by omega),Array.getElem?_toList]
    ·cases h
   ·cases h
  ·cases h
 ·cases h
def arg2 (P:Program) (H:AStore) (ps:PSh) (α:AVal):Option (AVal×Bool×List Prop):=match argA P H ps α with
 | some r=>some r
 | none=>match argW P H ps α with
  | some r=>some r
  | none=>argS H ps α
theorem arg2_ok (hc:Core P b M φ ξ H w) {ps:PSh} {α β:AVal} {z:Bool} {C:List Prop} {u:Value} (h:arg2 P H ps α=some (β,z,C)) (hC:AllP C) (hr:RelV P M φ α u):RelV P (lentM M ξ H w) φ0 β u∧(z=false→RelV P M φ0 β u):=by
 unfold arg2 at h
 split at h
 ·rename_i hb
  simp only [injEq] at h
  subst h
  exact argA_ok hc hb hC hr
 ·split at h
  ·rename_i hb
   simp only [injEq] at h
   subst h
   exact argW_ok hc hb hC hr
  ·exact argS_ok hc h hC hr
theorem argL_ok (hc:Core P b M φ ξ H w):∀{ps:List PSh} {l l':List AVal} {z:Bool} {C:List Prop} {us:List Value},argL P H ps l=some (l',z,C)→AllP C→RelVs P M φ l us→RelVs P (lentM M ξ H w) φ0 l' us∧(z=false→RelVs P M φ0 l' us)
 | [],[],l',z,C,us,h,_,hr=>by
  simp only [argL,injEq,Prod.mk.injEq] at h
  obtain ⟨rfl,rfl,rfl⟩:=h
  exact ⟨hr,fun _=>hr⟩
 | ps::q,α::l,l',z,C,us,h,hC,hr=>by
  simp only [argL] at h
  split at h
  ·rename_i β z1 C1 r z2 C2 h1 h2
   simp only [injEq,Prod.mk.injEq] at h
   obtain ⟨rfl,rfl,rfl⟩:=h
   obtain ⟨c1,c2⟩:=AllP.app hC
   obtain ⟨u,r',rfl,k1,k2⟩:=hr
   obtain ⟨g1,g2⟩:=argA_ok hc h1 c1 k1
   obtain ⟨g3,g4⟩:=argL_ok hc h2 c2 k2
   exact ⟨⟨u,r',rfl,g1,g3⟩,fun hz=>⟨u,r',rfl,g2 (by cases z1<;>simp_all),g4 (by cases z2<;>simp_all)⟩⟩
  ·cases h
 | [],_::_,_,_,_,_,h,_,_=>by simp [argL] at h
 | _::_,[],_,_,_,_,h,_,_=>by simp [argL] at h
mutual
theorem flatB_ok {N N':Fz} {ψ:Nat→Value}:∀{α:AVal} {u:Value},α.flatB=true→RelV P N ψ α u→RelV P N' ψ α u
 | .v s x,u,h,hr=>by obtain ⟨h1,cs,h2,h3⟩:=hr;exact ⟨h1,cs,h2,rep_flat h h3⟩
 | .tup l,u,h,hr=>by obtain ⟨us,h1,h2⟩:=hr;exact ⟨us,h1,flatL_ok h h2⟩
 | .ptr _ _ _,_,h,_=>by simp [AVal.flatB] at h
 | .row _,_,h,_=>by simp [AVal.flatB] at h
 | .sub _ _ _ _,_,h,_=>by simp [AVal.flatB] at h
 | .fp _ _,_,h,_=>by simp [AVal.flatB] at h
 | .clo _ _,_,h,_=>by simp [AVal.flatB] at h
 | .nilp,_,h,_=>by simp [AVal.flatB] at h
 | .undef,_,h,_=>by simp [AVal.flatB] at h
 | .ifc _,_,_,hr=>hr
theorem flatL_ok {N N':Fz} {ψ:Nat→Value}:∀{l:List AVal} {us:List Value},AVal.flatL l=true→RelVs P N ψ l us→RelVs P N' ψ l us
 | [],us,_,hr=>hr
 | α::l,us,h,hr=>by
  simp only [AVal.flatL,Bool.and_eq_true] at h
  obtain ⟨u,r,h1,h2,h3⟩:=hr
  exact ⟨u,r,h1,flatB_ok h.1 h2,flatL_ok h.2 h3⟩
end
theorem call_pure (hc:Core P b M φ ξ H w) {f:FuncId} {ps:List PSh} {l l':List AVal} {z:Bool} {C:List Prop} {us:List Value} {β:AVal} (h:argL P H ps l=some (l',z,C)) (hC:AllP C) (hr:RelVs P M φ l us) (hf:Pure P f l' β) (hz:z=true→β.flatB=true) (hlab:β.labs=[]) :
  Calls P f us.toArray w fun e w'=>∃M' v,e=.returned v∧Core P b M' φ ξ H w'∧M.le M'∧RelV P M' φ β v:=by
 obtain ⟨g1,g2⟩:=argL_ok hc h hC hr
 have keep:∀{w':World},Below w.heap.size w w'→∀M',M.le M'→(∀g,g<w.heap.size→M' g=M g)→Over M' w'→Core P b M' φ ξ H w':=by
  intro w' hb M' h1 h2 h3
  have lt:∀L it,(L,it)∈H→∀g,ξ L=some g→g<w.heap.size:=fun L it hi g hg=>held_lt (hc.items L it hi) g hg
  refine ⟨Fz.le_trans hc.le h1,fun g hg=>(h2 g (Nat.lt_of_lt_of_le hg hc.below.size)).trans (hc.same g hg),h3,hc.below.trans ⟨hb.os,hb.tape,hb.output,hb.size,fun k hk _=>hb.block k (Nat.lt_of_lt_of_le hk hc.below.size)⟩,fun L it hi=>held_kept h1 (hc.items L it hi) fun g hg=>hb.block g (lt L it hi g hg),fun L it g hi hg=>⟨(hc.feet L it g hi hg).1,(h2 g (lt L it hi g hg)).trans (hc.feet L it g hi hg).2⟩,hc.sep,hc.nd,hc.keep⟩
 cases z with
 | false =>
  refine (hf.2 w M us hc.over (g2 rfl)).mono ?_
  rintro e w' ⟨M',v,rfl,h1,h2,h3,h4,h5⟩
  exact ⟨M',v,rfl,keep h1 M' h2 h3 h4,h2,relV_labs (fun L hL=>by rw [hlab] at hL;cases hL) h5⟩
 | true =>
  refine (hf.2 w _ us (lentM_over hc.over) g1).mono ?_
  rintro e w' ⟨M',v,rfl,h1,h2,h3,h4,h5⟩
  have lt:∀g c,M g=some c→g<w.heap.size:=fun g c h=>by
   obtain ⟨t,fr,e⟩:=hc.over g c h
   exact (Array.getElem?_eq_some_iff.1 e).1
  let N:Fz:=fun g=>if g<w.heap.size then M g else M' g
  have n1:M.le N:=fun g c hg=>by show (if g<w.heap.size then M g else M' g)=some c;rw [if_pos (lt g c hg)];exact hg
  have n2:∀g,g<w.heap.size→N g=M g:=fun g hg=>by show (if g<w.heap.size then M g else M' g)=M g;rw [if_pos hg]
  have n3:Over N w':=by
   refine ⟨fun g c hg=>?_,hc.over.gl.mono n1⟩
   by_cases hlt:g<w.heap.size
   ·rw [n2 g hlt] at hg
    obtain ⟨t,fr,e⟩:=hc.over g c hg
    exact ⟨t,fr,(h1.block g hlt).trans e⟩
   ·have:N g=M' g:=by show (if g<w.heap.size then M g else M' g)=M' g;rw [if_neg hlt]
    rw [this] at hg
    exact h4 g c hg
  exact ⟨N,v,rfl,keep h1 N n1 n2 n3,n1,relV_labs (fun L hL=>by rw [hlab] at hL;cases hL) (flatB_ok (hz rfl) h5)⟩
theorem relVs_app {N:Fz} {ψ:Nat→Value}:∀{l m:List AVal} {us vs:List Value},RelVs P N ψ l us→RelVs P N ψ m vs→RelVs P N ψ (l++m) (us++vs)
 | [],m,us,vs,h,h2=>by simp only [RelVs] at h;subst h;exact h2
 | α::l,m,us,vs,⟨u,r,e,h1,h2⟩,h3=>by subst e;exact ⟨u,r++vs,rfl,h1,relVs_app h2 h3⟩
theorem call_fn (hc:Core P b M φ ξ H w) {s t:Sh} {p:s.ty→Option t.ty} {x:s.ty} {y:t.ty} {u v:Value} (hr:RelV P M φ (.v (.fn s t) p) u) (hx:RelV P M φ (.v s x) v) (hp:p x=some y) :
  ∃f cap,u=.func (.func f) #[] cap∧Enters P f∧Calls P f (#[v]++cap) w fun e w'=>∃M' r,e=.returned r∧Core P b M' φ ξ H w'∧M.le M'∧RelV P M' φ (.v t y) r:=by
 obtain ⟨hf,cs,rfl,f,cap,rfl,h0,h1⟩:=hr
 obtain ⟨_,ca,rfl,h2⟩:=hx
 refine ⟨f,cap,rfl,h0,(h1 w M (Fz.le_refl _) hc.over ca x h2 y hp).mono ?_⟩
 simp only [Sh.fixed,Bool.and_eq_true] at hf
 rintro e w' ⟨M',cs,rfl,hb,h2,h3,h4,h5⟩
 have lt:∀L it,(L,it)∈H→∀g,ξ L=some g→g<w.heap.size:=fun L it hi g hg=>held_lt (hc.items L it hi) g hg
 exact ⟨M',_,rfl,⟨Fz.le_trans hc.le h2,fun g hg=>(h3 g (Nat.lt_of_lt_of_le hg hc.below.size)).trans (hc.same g hg),h4,hc.below.trans ⟨hb.os,hb.tape,hb.output,hb.size,fun k hk _=>hb.block k (Nat.lt_of_lt_of_le hk hc.below.size)⟩,fun L it hi=>held_kept h2 (hc.items L it hi) fun g hg=>hb.block g (lt L it hi g hg),fun L it g hi hg=>⟨(hc.feet L it g hi hg).1,(h3 g (lt L it hi g hg)).trans (hc.feet L it g hi hg).2⟩,hc.sep,hc.nd,hc.keep⟩,h2,hf.1.2,cs,rfl,h5⟩
end
def MutG (P:Program) (f:FuncId) (n0:Nat) (l:List AVal) (Hi:AStore) (en:Value→Ending) (β:AVal) (Ho:AStore):Prop :=
 Enters P f∧∀(b:Base n0) (ξ:Nat→Option Nat) (us:List Value),Core P b b.M b.φ0 ξ Hi b.w→RelVs P b.M b.φ0 l us →
  Calls P f us.toArray b.w fun e w'=>∃M' φ' ξ' v,e=en v∧Core P b M' φ' ξ' Ho w'∧RelV P M' φ' β v
abbrev Mut (P:Program) (f:FuncId) (n0:Nat) (l:List AVal) (Hi:AStore) (β:AVal) (Ho:AStore):Prop:=MutG P f n0 l Hi .returned β Ho
def idxL:List Nat→Nat→Nat→Option Nat
 | [],_,_=>none
 | x::r,L,i=>if Nat.beq x L then some i else idxL r L (i+1)
def tauL (sg:List Nat) (K L:Nat):Nat:=match Nat.ble sg.length L with
 | true=>K+L
 | false=>match sg[L]? with
  | some l=>l
  | none=>K+L
theorem tauL_eq (sg:List Nat) (K L:Nat):tauL sg K L=match sg[L]? with
  | some l=>l
  | none=>K+L:=by
 unfold tauL
 split
 ·rename_i h
  rw [List.getElem?_eq_none (Nat.le_of_ble_eq_true h)]
 ·rfl
def AItem.persB:AItem→Bool
 | .var _ s _=>s.pers
 | .row _ s _=>s.pers
 | .mp _ _ v _=>v.pers
def Sh.flatR:Sh→Bool
 | .ref=>true
 | .oref=>true
 | .prod a b=>a.flatR&&b.flatR
 | .st s=>s.flatR
 | s=>s.flat
def AItem.flatB:AItem→Bool
 | .var _ s _=>s.flatR
 | .row _ s _=>s.flat
 | .mp _ k v _=>k.flat&&v.flat
def Sh.rn:Sh→Bool
 | .ref=>true
 | .oref=>true
 | .prod a b=>a.rn&&b.rn
 | .st s=>s.rn
 | s=>s.pers
def AItem.rnB:AItem→Bool
 | .var _ s _=>s.rn
 | .row _ s _=>s.pers
 | .mp _ _ v _=>match v with
  | .ref=>true
  | v=>v.pers
def renT (f:Nat→Nat):(s:Sh)→s.ty→s.ty
 | .ref,x=>f x
 | .oref,x=>f x
 | .prod a b,x=>if (Sh.prod a b).pers then x else (renT f a x.1,renT f b x.2)
 | .st s,x=>renT f s x
 | _,x=>x
def renI (f:Nat→Nat):AItem→AItem
 | .var T s x=>.var T s (renT f s x)
 | .mp T k v x=>.mp T k v (if v.pers then x else x.map fun y=>(y.1,renT f v y.2))
 | it=>it
def inA (sg:List Nat):AVal→Option AVal
 | .row L=>match idxL sg L 0 with
  | some i=>some (.row i)
  | none=>none
 | .ptr L p off=>match idxL sg L 0 with
  | some i=>some (.ptr i p off)
  | none=>none
 | _=>none
mutual
def outA (sg:List Nat) (K:Nat):AVal→AVal
 | .row L=>.row (tauL sg K L)
 | .sub L sz lo n=>.sub (tauL sg K L) sz lo n
 | .ptr L p off=>.ptr (tauL sg K L) p off
 | .tup l=>.tup (outL sg K l)
 | .v s x=>if s.pers then .v s x else .v s (renT (tauL sg K) s x)
 | α=>α
def outL (sg:List Nat) (K:Nat):List AVal→List AVal
 | []=>[]
 | α::l=>outA sg K α::outL sg K l
end
mutual
def AVal.okM (z:Bool):AVal→Bool
 | .v s _=>if s.pers then !z||s.flat else s.rn&&(!z||s.flatR)
 | .fp s _=>s.pers&&!z
 | .row _=>true
 | .sub _ _ _ _=>true
 | .ptr _ _ _=>true
 | .avw _ _ _ _=>false
 | .nilp=>true
 | .undef=>true
 | .ifc _=>true
 | .tup l=>AVal.okML z l
 | .clo _ _=>false
def AVal.okML (z:Bool):List AVal→Bool
 | []=>true
 | α::l=>α.okM z&&AVal.okML z l
end
def idxD (sg:List Nat) (L:Nat):Nat:=match idxL sg L 0 with
 | some i=>i
 | none=>0
def inLs (sg:List Nat):List Nat→Bool
 | []=>true
 | L::l=>(match idxL sg L 0 with|some _=>true|none=>false)&&inLs sg l
def pickM (sg:List Nat):List Nat→Nat→AStore→Option AStore
 | [],_,_=>some []
 | x::r,i,H=>match look H x,pickM sg r (i+1) H with
  | some it,some q=>if it.rnB&&inLs sg it.labs then some ((i,renI (idxD sg) it)::q) else none
  | _,_=>none
def remLs (sg:List Nat):AStore→AStore
 | []=>[]
 | x::H=>match idxL sg x.1 0 with
  | some _=>remLs sg H
  | none=>x::remLs sg H
def outH (sg:List Nat) (K:Nat):AStore→AStore
 | []=>[]
 | x::H=>(tauL sg K x.1,renI (tauL sg K) x.2)::outH sg K H
def argM (P:Program) (sg:List Nat) (H:AStore) (ps:PSh) (α:AVal):Option (AVal×Bool×List Prop):=match inA sg α with
 | some β=>some (β,false,[])
 | none=>match arg2 P H ps α with
  | some (β,z,C)=>if β.labs.isEmpty then some (β,z,C) else none
  | none=>none
def argML (P:Program) (sg:List Nat) (H:AStore):List PSh→List AVal→Option (List AVal×Bool×List Prop)
 | [],[]=>some ([],false,[])
 | ps::r,α::l=>match argM P sg H ps α,argML P sg H r l with
  | some (β,z,C),some (q,z',C')=>some (β::q,z||z',C++C')
  | _,_=>none
 | _,_=>none
def allB (p:AItem→Bool):AStore→Bool
 | []=>true
 | x::H=>p x.2&&allB p H
def ltB (K:Nat):List Nat→Bool
 | []=>true
 | x::l=>Nat.blt x K&&ltB K l
def nodB:List Nat→Bool
 | []=>true
 | x::l=>!l.any (Nat.beq x)&&nodB l
def callM (P:Program) (n0:Nat) (ρ:AEnv) (H:AStore) (l:List AVal) (ps:List PSh) (β:AVal) (sg:List Nat) (K:Nat) (Ho:AStore):AVal→Option (AVal×AStore×List Prop)
 | .clo f caps=>match argML P sg (remLs sg H) ps (l++caps),pickM sg sg 0 H with
  | some (l',z,C),some Hi =>
   if nodB sg&&β.okM z&&allB AItem.rnB Ho&&(!z||allB AItem.flatB Ho)&&nodB ((remLs sg H++outH sg K Ho).map Prod.fst)&&Nat.ble n0 K&&ltB K (envLabs ρ++storeLabs H) then
    some (outA sg K β,remLs sg H++outH sg K Ho,C++[Mut P f sg.length l' Hi β Ho])
   else none
  | _,_=>none
 | _=>none
theorem idxL_some:∀{sg:List Nat} {L j i:Nat},idxL sg L j=some i→j≤i∧sg[i-j]?=some L
 | [],L,j,i,h=>by simp [idxL] at h
 | x::r,L,j,i,h=>by
  simp only [idxL] at h
  split at h
  ·rename_i e
   have e:=Nat.eq_of_beq_eq_true e
   simp only [injEq] at h
   subst e h
   simp
  ·obtain ⟨h1,h2⟩:=idxL_some h
   refine ⟨by omega,?_⟩
   rw [show i-j=(i-(j+1))+1 by omega,List.getElem?_cons_succ]
   exact h2
theorem idxL_none:∀{sg:List Nat} {L j:Nat},idxL sg L j=none→L ∉ sg
 | [],L,j,_=>by simp
 | x::r,L,j,h=>by
  simp only [idxL] at h
  split at h
  ·cases h
  ·rename_i e
   intro hm
   rcases List.mem_cons.1 hm with rfl|hm
   ·exact e (by simp)
   ·exact idxL_none h hm
theorem nodB_ok:∀{l:List Nat},nodB l=true→l.Nodup
 | [],_=>List.nodup_nil
 | x::l,h=>by
  simp only [nodB,Bool.and_eq_true,Bool.not_eq_true'] at h
  rw [List.nodup_cons]
  refine ⟨fun hx=>?_,nodB_ok h.2⟩
  have:=h.1
  rw [List.any_eq_false] at this
  exact this x hx (by simp)
theorem idxL_get {sg:List Nat} (hn:sg.Nodup) {L i:Nat} (h:sg[i]?=some L):idxL sg L 0=some i:=by
 cases hx:idxL sg L 0 with
 | none=>exact absurd (List.mem_of_getElem? h) (idxL_none hx)
 | some j =>
  obtain ⟨_,h1⟩:=idxL_some hx
  rw [Nat.sub_zero] at h1
  obtain ⟨l1,e1⟩:=List.getElem?_eq_some_iff.1 h
  obtain ⟨l2,e2⟩:=List.getElem?_eq_some_iff.1 h1
  have:=(List.getElem_inj (h₀:=l2) (h₁:=l1) hn).1 (e2.trans e1.symm)
  rw [this]
theorem inLs_ok {sg:List Nat}:∀{l:List Nat},inLs sg l=true→∀L∈l,∃i,idxL sg L 0=some i
 | [],_,L,hL=>by cases hL
 | x::l,h,L,hL=>by
  simp only [inLs,Bool.and_eq_true] at h
  rcases List.mem_cons.1 hL with rfl|hL
  ·have:=h.1
   split at this
   ·rename_i i hi;exact ⟨i,hi⟩
   ·cases this
  ·exact inLs_ok h.2 L hL
theorem rep_ren {P:Program} {φ φ':Nat→Value} {M:Fz} {f:Nat→Nat}:∀{s:Sh} {cs:List Value} {x:s.ty},s.rn=true→(∀L∈s.labs x,φ' (f L)=φ L)→RepC P φ s M cs x→RepC P φ' s M cs (renT f s x):=by
 intro s
 induction s with
 | prod a b iha ihb =>
  intro cs x hr hp h
  cases hs:(Sh.prod a b).pers with
  | true=>simp only [renT,hs,if_true];exact rep_pers hs h
  | false =>
   simp only [Sh.rn,Bool.and_eq_true] at hr
   obtain ⟨c1,c2,rfl,h1,h2⟩:=h
   simp only [renT,hs]
   exact ⟨c1,c2,rfl,iha hr.1 (fun L hL=>hp L (List.mem_append_left _ hL)) h1,ihb hr.2 (fun L hL=>hp L (List.mem_append_right _ hL)) h2⟩
 | st s ih=>intro cs x hr hp h;exact ih hr hp h
 | ref =>
  intro cs x _ hp h
  have:=hp x (List.mem_singleton.2 rfl)
  simp only [RepC,renT] at h⊢
  rw [this];exact h
 | oref =>
  intro cs x _ hp h
  have:=hp x (List.mem_singleton.2 rfl)
  simp only [RepC,renT] at h⊢
  rw [this];exact h
 | arr n s ih=>intro cs x hr _ h;exact rep_pers (s:=.arr n s) hr h
 | lst s ih=>intro cs x hr _ h;exact rep_pers (s:=.lst s) hr h
 | sl s ih=>intro cs x hr _ h;exact rep_pers (s:=.sl s) hr h
 | fn a b iha ihb=>intro cs x hr _ h;exact rep_pers (s:=.fn a b) hr h
 | pt s ih=>intro cs x hr _ h;exact rep_pers (s:=.pt s) hr h
 | _=>intro cs x _ _ h;exact h
theorem rn_pers {s:Sh} (h:s.pers=true):s.rn=true:=by
 induction s with
 | prod a b iha ihb =>
  simp only [Sh.pers,Bool.and_eq_true] at h
  simp [Sh.rn,iha h.1,ihb h.2]
 | st s ih=>exact ih h
 | ref=>rfl
 | oref=>rfl
 | _=>exact h
theorem held_ren {P:Program} {φ φ':Nat→Value} {M:Fz} {w:World} {u:Value} {o:Option Nat} {f:Nat→Nat} {it:AItem} (hr:it.rnB=true) (hp:∀L∈it.labs,φ' (f L)=φ L) (h:Held P M φ w u o it):Held P M φ' w u o (renI f it):=by
 cases it with
 | var T s x =>
  obtain ⟨h1,g,c,h2,h3,h4,h5⟩:=h
  refine ⟨h1,g,c,h2,h3,h4,rep_ren hr (fun L hL=>hp L ?_) h5⟩
  cases hs:s.pers with
  | true=>rw [labs_pers hs] at hL;cases hL
  | false=>simpa [AItem.labs,hs] using hL
 | mp T k v x =>
  obtain ⟨h1,g,es,h2,h3,h4,h5⟩:=h
  refine ⟨h1,g,es,h2,h3,h4,?_⟩
  cases hps:v.pers with
  | true=>simp only [if_true];exact h5.mono (fun _ _=>rep_pers h1.2.2.1) (fun _ _=>rep_pers hps)
  | false =>
  simp only [Bool.false_eq_true,if_false]
  have hv:∀y∈x,∀c,RepC P φ v M c y.2→RepC P φ' v M c (renT f v y.2):=fun y hy c hc=>by
   refine rep_ren ?_ (fun L hL=>hp L ?_) hc
   ·rcases h1.2.2.2 with h|h
    ·exact rn_pers h
    ·rw [h];rfl
   ·cases hs:v.pers with
    | true=>rw [labs_pers hs] at hL;cases hL
    | false=>simp only [AItem.labs,hs];exact List.mem_flatMap.2 ⟨y,hy,hL⟩
  clear hp h2 h3 h4 hr
  revert hv h5
  generalize 0=n
  intro h5 hv
  have go:∀(es:List MapEntry) (ys:List (k.ty×v.ty)) (n:Nat),(∀y∈ys,∀c,RepC P φ v M c y.2→RepC P φ' v M c (renT f v y.2))→RepM P φ M k v es ys n→RepM P φ' M k v es (ys.map fun y=>(y.1,renT f v y.2)) n:=by
   intro es
   induction es with
   | nil=>intro ys n _ h;cases ys with
    | nil=>trivial
    | cons _ _=>exact h.elim
   | cons e es ih=>intro ys n hv h;cases ys with
    | nil=>exact h.elim
    | cons y ys =>
     obtain ⟨⟨ck,cv,g1,g2,g3,g4,g5⟩,g6⟩:=h
     exact ⟨⟨ck,cv,g1,rep_pers h1.2.2.1 g2,g3,hv y (List.mem_cons_self ..) _ g4,g5⟩,ih ys (n+1) (fun y hy=>hv y (List.mem_cons_of_mem _ hy)) g6⟩
  exact go _ _ _ hv h5
 | row e s x =>
  have e1:(AItem.row e s x).labs=[]:=if_pos hr
  exact held_labs (it:=.row e s x) (fun L hL=>by rw [e1] at hL;cases hL) h
theorem pickM_ok {sg0:List Nat}:∀{sg:List Nat} {j:Nat} {H Hi:AStore},pickM sg0 sg j H=some Hi→(∀i it,(i,it)∈Hi→j≤i∧i<j+sg.length∧∃L it0,sg[i-j]?=some L∧(L,it0)∈H∧it0.rnB=true∧inLs sg0 it0.labs=true∧it=renI (idxD sg0) it0)∧(Hi.map Prod.fst).Nodup
 | [],j,H,Hi,h=>by simp only [pickM,injEq] at h;subst h;exact ⟨fun i it hi=>(by cases hi),by simp⟩
 | x::r,j,H,Hi,h=>by
  simp only [pickM] at h
  split at h
  ·rename_i it q h1 h2
   split at h
   ·rename_i hp
    simp only [injEq] at h
    subst h
    obtain ⟨k1,k2⟩:=pickM_ok h2
    refine ⟨fun i it' hi=>?_,?_⟩
    ·rcases List.mem_cons.1 hi with e|hi
     ·simp only [Prod.mk.injEq] at e
      obtain ⟨rfl,rfl⟩:=e
      simp only [Bool.and_eq_true] at hp
      exact ⟨Nat.le_refl _,(by simp only [List.length_cons];omega),x,_,(by rw [Nat.sub_self];rfl),look_mem h1,hp.1,hp.2,rfl⟩
     ·obtain ⟨g1,g2,L,it0,g3,g4,g5⟩:=k1 i it' hi
      refine ⟨by omega,(by simp only [List.length_cons];omega),L,it0,?_,g4,g5⟩
      rw [show i-j=(i-(j+1))+1 by omega,List.getElem?_cons_succ]
      exact g3
    ·rw [List.map_cons,List.nodup_cons]
     refine ⟨fun hm=>?_,k2⟩
     obtain ⟨y,hy,e⟩:=List.mem_map.1 hm
     have:=(k1 y.1 y.2 hy).1
     have e:y.1=j:=e
     omega
   ·cases h
  ·cases h
theorem remLs_mem {sg:List Nat}:∀{H:AStore} {x:Nat×AItem},x∈remLs sg H→x∈H∧x.1 ∉ sg
 | [],x,h=>by cases h
 | y::H,x,h=>by
  simp only [remLs] at h
  split at h
  ·obtain ⟨h1,h2⟩:=remLs_mem h;exact ⟨List.mem_cons_of_mem _ h1,h2⟩
  ·rename_i e
   rcases List.mem_cons.1 h with rfl|h
   ·exact ⟨List.mem_cons_self ..,idxL_none e⟩
   ·obtain ⟨h1,h2⟩:=remLs_mem h;exact ⟨List.mem_cons_of_mem _ h1,h2⟩
theorem outH_mem {sg:List Nat} {K:Nat}:∀{H:AStore} {x:Nat×AItem},x∈outH sg K H→∃L it,(L,it)∈H∧x.1=tauL sg K L∧x.2=renI (tauL sg K) it
 | [],x,h=>by cases h
 | y::H,x,h=>by
  simp only [outH] at h
  rcases List.mem_cons.1 h with rfl|h
  ·exact ⟨y.1,y.2,List.mem_cons_self ..,rfl,rfl⟩
  ·obtain ⟨L,it,h1,h2⟩:=outH_mem h;exact ⟨L,it,List.mem_cons_of_mem _ h1,h2⟩
theorem allB_mem {p:AItem→Bool}:∀{H:AStore},allB p H=true→∀x∈H,p x.2=true
 | [],_,x,h=>by cases h
 | y::H,h,x,hx=>by
  simp only [allB,Bool.and_eq_true] at h
  rcases List.mem_cons.1 hx with rfl|hx
  ·exact h.1
  ·exact allB_mem h.2 x hx
theorem ltB_mem {K:Nat}:∀{l:List Nat},ltB K l=true→∀x∈l,x<K
 | [],_,x,h=>by cases h
 | y::l,h,x,hx=>by
  simp only [ltB,Bool.and_eq_true,Nat.blt_eq] at h
  rcases List.mem_cons.1 hx with rfl|hx
  ·exact h.1
  ·exact ltB_mem h.2 x hx
theorem rep_flatR {P:Program} {φ:Nat→Value}:∀{s:Sh} {M M':Fz} {cs:List Value} {x:s.ty},s.flatR=true→RepC P φ s M cs x→RepC P φ s M' cs x:=by
 intro s
 induction s with
 | prod a b iha ihb =>
  intro M M' cs x hp h
  simp only [Sh.flatR,Bool.and_eq_true] at hp
  obtain ⟨c1,c2,rfl,h1,h2⟩:=h;exact ⟨c1,c2,rfl,iha hp.1 h1,ihb hp.2 h2⟩
 | st s ih=>intro M M' cs x hp h;exact ih hp h
 | ref=>intro M M' cs x _ h;exact h
 | oref=>intro M M' cs x _ h;exact h
 | arr n s ih=>intro M M' cs x hp h;exact rep_flat (s:=.arr n s) hp h
 | lst s ih=>intro M M' cs x hp h;exact rep_flat (s:=.lst s) hp h
 | sl s ih=>intro M M' cs x hp h;exact rep_flat (s:=.sl s) hp h
 | fn a b iha ihb=>intro M M' cs x hp h;exact rep_flat (s:=.fn a b) hp h
 | pt s ih=>intro M M' cs x hp h;exact rep_flat (s:=.pt s) hp h
 | _=>intro M M' cs x _ h;exact h
theorem held_flat {P:Program} {M N:Fz} {φ:Nat→Value} {w:World} {u:Value} {o:Option Nat} {it:AItem} (hf:it.flatB=true) (h:Held P M φ w u o it):Held P N φ w u o it:=by
 cases it with
 | mp T k v x =>
  have hf:k.flat=true∧v.flat=true:=by simpa [AItem.flatB] using hf
  obtain ⟨h1,g,es,h2,h3,h4,h5⟩:=h
  exact ⟨h1,g,es,h2,h3,h4,h5.mono (fun _ _=>rep_flat hf.1) (fun _ _=>rep_flat hf.2)⟩
 | var T s x =>
  obtain ⟨h1,g,c,h2,h3,h4,h5⟩:=h
  exact ⟨h1,g,c,h2,h3,h4,rep_flatR hf h5⟩
 | row e s x =>
  obtain ⟨h1,A,cap,h2,h3⟩:=h
  refine ⟨h1,A,cap,h2,?_⟩
  rcases h3 with h3|⟨g,c,k1,k2,k3,k4,k5,k6,k7⟩
  ·exact .inl h3
  ·exact .inr ⟨g,c,k1,k2,k3,k4,k5,k6,RepL.mono (fun c y hc=>rep_flat (s:=s) hf hc) k7⟩
section
variable {P:Program} {n0:Nat} {b:Base n0} {M:Fz} {φ:Nat→Value} {ξ:Nat→Option Nat} {H:AStore} {w:World} {ρ:AEnv}
theorem inA_ok {sg:List Nat} {α β:AVal} {N:Fz} {u:Value} (h:inA sg α=some β) (hr:RelV P M φ α u):RelV P N (fun i=>φ (sg.getD i 0)) β u:=by
 unfold inA at h
 split at h
 ·split at h
  ·rename_i i hi
   simp only [injEq] at h
   subst h
   obtain ⟨_,h1⟩:=idxL_some hi
   rw [Nat.sub_zero] at h1
   obtain ⟨h2,h3⟩:=hr
   exact ⟨by rw [h2];simp [getD,h1],h3⟩
  ·cases h
 ·split at h
  ·rename_i i hi
   simp only [injEq] at h
   subst h
   obtain ⟨_,h1⟩:=idxL_some hi
   rw [Nat.sub_zero] at h1
   obtain ⟨g,h2,h3⟩:=hr
   exact ⟨g,by simp only [getD,h1,Option.getD_some];exact h2,h3⟩
  ·cases h
 ·cases h
mutual
theorem outA_ok {sg:List Nat} {K:Nat} {z:Bool} {M' N:Fz} {φ' φ2:Nat→Value} (hN:z=false→N=M') (hφ:∀L,φ2 (tauL sg K L)=φ' L):∀{β:AVal} {v:Value},β.okM z=true→RelV P M' φ' β v→RelV P N φ2 (outA sg K β) v
 | .v s x,v,h,hr=>by
  obtain ⟨h1,cs,h2,h3⟩:=hr
  simp only [AVal.okM] at h
  simp only [outA]
  split at h
  ·rename_i hp
   rw [if_pos hp]
   simp only [Bool.or_eq_true,Bool.not_eq_true'] at h
   refine ⟨h1,cs,h2,rep_pers (φ:=φ') hp ?_⟩
   rcases h with k|k
   ·rw [hN k];exact h3
   ·exact rep_flat k h3
  ·rename_i hp
   rw [if_neg hp]
   simp only [Bool.and_eq_true,Bool.or_eq_true,Bool.not_eq_true'] at h
   refine ⟨h1,cs,h2,rep_ren h.1 (fun L _=>hφ L) ?_⟩
   rcases h.2 with k|k
   ·rw [hN k];exact h3
   ·exact rep_flatR k h3
 | .fp s x,v,h,hr=>by
  simp only [AVal.okM,Bool.and_eq_true,Bool.not_eq_true'] at h
  obtain ⟨h1,g,off,cs,h2,h3,h4⟩:=hr
  rw [hN h.2]
  exact ⟨h1,g,off,cs,h2,h3,rep_pers h.1 h4⟩
 | .row L,v,_,hr=>by
  obtain ⟨h1,h2⟩:=hr
  exact ⟨by rw [h1,hφ],h2⟩
 | .sub L sz lo n,v,_,hr=>by
  obtain ⟨A,m,c,h1,h2⟩:=hr
  exact ⟨A,m,c,by rw [hφ];exact h1,h2⟩
 | .ptr L p off,v,_,hr=>by
  obtain ⟨g,h1,h2⟩:=hr
  exact ⟨g,by rw [hφ];exact h1,h2⟩
 | .nilp,v,_,hr=>hr
 | .undef,v,_,hr=>hr
 | .ifc _,v,_,hr=>hr
 | .tup l,v,h,hr=>by
  obtain ⟨us,h1,h2⟩:=hr
  exact ⟨us,h1,outL_ok hN hφ h h2⟩
 | .clo _ _,v,h,_=>by simp [AVal.okM] at h
theorem outL_ok {sg:List Nat} {K:Nat} {z:Bool} {M' N:Fz} {φ' φ2:Nat→Value} (hN:z=false→N=M') (hφ:∀L,φ2 (tauL sg K L)=φ' L):∀{l:List AVal} {us:List Value},AVal.okML z l=true→RelVs P M' φ' l us→RelVs P N φ2 (outL sg K l) us
 | [],us,_,hr=>hr
 | α::l,us,h,hr=>by
  simp only [AVal.okML,Bool.and_eq_true] at h
  obtain ⟨u,r,h1,h2,h3⟩:=hr
  exact ⟨u,r,h1,outA_ok hN hφ h.1 h2,outL_ok hN hφ h.2 h3⟩
end
theorem argML_ok {sg:List Nat} {ψ:Nat→Value} (hψ:ψ=fun i=>φ (sg.getD i 0)) {Hr:AStore} (hc:Core P b M φ ξ Hr w):∀{ps:List PSh} {l l':List AVal} {z:Bool} {C:List Prop} {us:List Value},argML P sg Hr ps l=some (l',z,C)→AllP C→RelVs P M φ l us→RelVs P (lentM M ξ Hr w) ψ l' us∧(z=false→RelVs P M ψ l' us)
 | [],[],l',z,C,us,h,_,hr=>by
  simp only [argML,injEq,Prod.mk.injEq] at h
  obtain ⟨rfl,rfl,rfl⟩:=h
  exact ⟨hr,fun _=>hr⟩
 | ps::q,α::l,l',z,C,us,h,hC,hr=>by
  simp only [argML] at h
  split at h
  ·rename_i β z1 C1 r z2 C2 h1 h2
   simp only [injEq,Prod.mk.injEq] at h
   obtain ⟨rfl,rfl,rfl⟩:=h
   obtain ⟨c1,c2⟩:=AllP.app hC
   obtain ⟨u,r',rfl,k1,k2⟩:=hr
   obtain ⟨g3,g4⟩:=argML_ok hψ hc h2 c2 k2
   have:RelV P (lentM M ξ Hr w) ψ β u∧(z1=false→RelV P M ψ β u):=by
    unfold argM at h1
    split at h1
    ·rename_i γ hγ
     simp only [injEq,Prod.mk.injEq] at h1
     obtain ⟨rfl,rfl,rfl⟩:=h1
     subst hψ
     exact ⟨inA_ok hγ k1,fun _=>inA_ok hγ k1⟩
    ·split at h1
     ·rename_i ha
      split at h1
      ·rename_i hl
       rw [List.isEmpty_iff] at hl
       simp only [injEq,Prod.mk.injEq] at h1
       obtain ⟨rfl,rfl,rfl⟩:=h1
       obtain ⟨g1,g2⟩:=arg2_ok hc ha c1 k1
       exact ⟨relV_labs (fun L hL=>by rw [hl] at hL;cases hL) g1,fun hz=>relV_labs (fun L hL=>by rw [hl] at hL;cases hL) (g2 hz)⟩
      ·cases h1
     ·cases h1
   exact ⟨⟨u,r',rfl,this.1,g3⟩,fun hz=>⟨u,r',rfl,this.2 (by cases z1<;>simp_all),g4 (by cases z2<;>simp_all)⟩⟩
  ·cases h
 | [],_::_,_,_,_,_,h,_,_=>by simp [argML] at h
 | _::_,[],_,_,_,_,h,_,_=>by simp [argML] at h
theorem call_mutG (hc:Core P b M φ ξ H w) {en:Value→Ending} {f:FuncId} {ps:List PSh} {l l':List AVal} {z:Bool} {C:List Prop} {us:List Value} {β:AVal} {sg:List Nat} {K:Nat} {Hi Ho:AStore} (h:argML P sg (remLs sg H) ps l=some (l',z,C)) (hC:AllP C) (hi:pickM sg sg 0 H=some Hi) (hr:RelVs P M φ l us) (hf:MutG P f sg.length l' Hi en β Ho)
  (hsg:sg.Nodup) (hβ:β.okM z=true) (hp:allB AItem.rnB Ho=true) (hz:z=true→allB AItem.flatB Ho=true) (hnd:((remLs sg H++outH sg K Ho).map Prod.fst).Nodup) (hK:n0≤K) (hlt:∀L∈storeLabs H,L<K) :
  Calls P f us.toArray w fun e w'=>∃M' φ' ξ' v,e=en v∧Core P b M' φ' ξ' (remLs sg H++outH sg K Ho) w'∧M.le M'∧(∀L,L<K→φ' L=φ L)∧RelV P M' φ' (outA sg K β) v:=by
 obtain ⟨p1,p2⟩:=pickM_ok hi
 have hsub:(remLs sg H).Sublist H:=by
  clear hnd h hi p1 p2 hlt hc
  induction H with
  | nil=>exact List.Sublist.slnil
  | cons y H ih =>
   simp only [remLs]
   split
   ·exact .cons _ ih
   ·exact .cons_cons _ ih
 have hcr:=hc.sub hsub
 obtain ⟨g1,g2⟩:=argML_ok (ψ:=fun i=>φ (sg.getD i 0)) rfl hcr h hC hr
 have ltM:∀g c,M g=some c→g<w.heap.size:=fun g c h=>by
  obtain ⟨t,fr,e⟩:=hc.over g c h
  exact (Array.getElem?_eq_some_iff.1 e).1
 have foot:∀L it,(L,it)∈H→∀g,ξ L=some g→g<w.heap.size:=fun L it hi g hg=>held_lt (hc.items L it hi) g hg
 -- the callee's beginning,over a frozen memory M1
 have begin:∀M1:Fz,M.le M1→Over M1 w→(∀L it,(L,it)∈H→L∈sg→∀g,ξ L=some g→M1 g=none)→∀ok:Over M1 w,Core P (⟨w,M1,sg.filterMap ξ,fun i=>φ (sg.getD i 0),ok,[]⟩:Base sg.length) M1 (fun i=>φ (sg.getD i 0)) (fun i=>ξ (sg.getD i 0)) Hi w:=by
  intro M1 m1 m2 m3 ok
  have at':∀i it,(i,it)∈Hi→∃L it0,sg[i]?=some L∧sg.getD i 0=L∧L∈sg∧(L,it0)∈H∧it0.rnB=true∧inLs sg it0.labs=true∧it=renI (idxD sg) it0:=by
   intro i it hi
   obtain ⟨_,_,L,it0,q1,q2,q3⟩:=p1 i it hi
   rw [Nat.sub_zero] at q1
   exact ⟨L,it0,q1,by simp [getD,q1],List.mem_of_getElem? q1,q2,q3⟩
  refine ⟨Fz.le_refl _,fun _ _=>rfl,ok,BelowX.refl _ _ _,fun i it hi=>?_,fun i it g hi hg=>?_,fun i j it it' g hi hj hg hg'=>?_,p2,fun _ _=>rfl⟩
  ·obtain ⟨L,it0,_,e,_,q2,q3,q4,rfl⟩:=at' i it hi
   show Held P M1 (fun i=>φ (sg.getD i 0)) w (φ (sg.getD i 0)) (ξ (sg.getD i 0)) _
   rw [e]
   refine held_ren q3 (fun l hl=>?_) (held_kept m1 (hc.items L it0 q2) fun _ _=>rfl)
   obtain ⟨j,hj⟩:=inLs_ok q4 l hl
   have:=(idxL_some hj).2
   rw [Nat.sub_zero] at this
   show φ (sg.getD (idxD sg l) 0)=φ l
   simp [idxD,hj,getD,this]
  ·obtain ⟨L,it0,_,e,q0,q2,_⟩:=at' i it hi
   have hg:ξ (sg.getD i 0)=some g:=hg
   rw [e] at hg
   exact ⟨.inr (List.mem_filterMap.2 ⟨L,q0,hg⟩),m3 L it0 q2 q0 g hg⟩
  ·obtain ⟨L,it0,q1,e,_,q2,_⟩:=at' i it hi
   obtain ⟨L',it1,q1',e',_,q2',_⟩:=at' j it' hj
   have hg:ξ (sg.getD i 0)=some g:=hg
   have hg':ξ (sg.getD j 0)=some g:=hg'
   rw [e] at hg
   rw [e'] at hg'
   have:=hc.sep L L' it0 it1 g q2 q2' hg hg'
   subst this
   have a1:=idxL_get hsg q1
   have a2:=idxL_get hsg q1'
   exact inj (a1.symm.trans a2)
 -- what comes back,over a frozen memory N
 have back:∀(M1 M' N:Fz) (ok:Over M1 w) (φ':Nat→Value) (ξ':Nat→Option Nat) (w':World) (v:Value),Core P (⟨w,M1,sg.filterMap ξ,fun i=>φ (sg.getD i 0),ok,[]⟩:Base sg.length) M' φ' ξ' Ho w'→RelV P M' φ' β v →
   M.le N→(∀g,g<w.heap.size→N g=M g)→Over N w'→(z=false→N=M')→(∀g,w.heap.size≤g→N g=M' g)→∃M' φ' ξ' v',en v=en v'∧Core P b M' φ' ξ' (remLs sg H++outH sg K Ho) w'∧M.le M'∧(∀L,L<K→φ' L=φ L)∧RelV P M' φ' (outA sg K β) v':=by
  intro M1 M' N ok φ' ξ' w' v c2 hv n1 n2 n3 n4 n5
  let φ2:Nat→Value:=fun l=>if K≤l then φ' (l-K) else φ l
  let ξ2:Nat→Option Nat:=fun l=>if K≤l then ξ' (l-K) else match idxL sg l 0 with
   | some i=>ξ' i
   | none=>ξ l
  have sgK:∀{i L},sg[i]?=some L→(i,L)∈(List.range sg.length).zip sg→True:=fun _ _=>trivial
  have inH:∀L∈sg,∃it,(L,it)∈H:=by
   clear begin c2 hf g1 g2 h hnd hcr hsub hsg p1 p2 sgK φ2 ξ2
   have:∀(r:List Nat) (j:Nat) (Hi:AStore),pickM sg r j H=some Hi→∀L∈r,∃it,(L,it)∈H:=by
    intro r
    induction r with
    | nil=>intro _ _ _ L hL;cases hL
    | cons x r ih =>
     intro j Hi h L hL
     simp only [pickM] at h
     split at h
     ·rename_i it q h1 h2
      rcases List.mem_cons.1 hL with rfl|hL
      ·exact ⟨it,look_mem h1⟩
      ·exact ih _ _ h2 L hL
     ·cases h
   exact this sg 0 Hi hi
  have sgLt:∀L∈sg,L<K:=fun L hL=>by
   obtain ⟨it,hm⟩:=inH L hL
   exact hlt L (mem_labs hm).1
  have lo:∀L,L<K→φ2 L=φ L:=fun L hL=>by show (if K≤L then _ else _)=_;rw [if_neg (by omega)]
  have hφ:∀L,φ2 (tauL sg K L)=φ' L:=by
   intro L
   rw [tauL_eq]
   cases hs:sg[L]? with
   | some l =>
    have hl:=sgLt l (List.mem_of_getElem? hs)
    rw [show (match some l with|some l=>l|none=>K+L)=l from rfl,lo l hl]
    have hL:L<sg.length:=(List.getElem?_eq_some_iff.1 hs).1
    have:=c2.keep L hL
    rw [this]
    show φ l=φ (sg.getD L 0)
    simp [getD,hs]
   | none =>
    show (if K≤K+L then φ' (K+L-K) else _)=_
    rw [if_pos (Nat.le_add_right _ _),Nat.add_sub_cancel_left]
  have hξ:∀L,ξ2 (tauL sg K L)=ξ' L:=by
   intro L
   rw [tauL_eq]
   cases hs:sg[L]? with
   | some l =>
    have hl:=sgLt l (List.mem_of_getElem? hs)
    show (if K≤l then _ else _)=_
    rw [if_neg (by omega),idxL_get hsg hs]
   | none =>
    show (if K≤K+L then ξ' (K+L-K) else _)=_
    rw [if_pos (Nat.le_add_right _ _),Nat.add_sub_cancel_left]
  have rest:∀L it,(L,it)∈remLs sg H→(L,it)∈H∧L ∉ sg∧L<K∧ξ2 L=ξ L:=by
   intro L it hi
   obtain ⟨q1,q2⟩:=remLs_mem hi
   have hl:=hlt L (mem_labs q1).1
   refine ⟨q1,q2,hl,?_⟩
   show (if K≤L then _ else _)=_
   rw [if_neg (by omega)]
   cases hx:idxL sg L 0 with
   | none=>rfl
   | some i=>exact absurd (List.mem_of_getElem? (idxL_some hx).2) q2
  have feetE:∀g,g∈sg.filterMap ξ→∃L it,L∈sg∧(L,it)∈H∧ξ L=some g:=by
   intro g hg
   obtain ⟨L,q1,q2⟩:=List.mem_filterMap.1 hg
   obtain ⟨it,q3⟩:=inH L q1
   exact ⟨L,it,q1,q3,q2⟩
  have restE:∀L it g,(L,it)∈remLs sg H→ξ L=some g→g ∉ sg.filterMap ξ:=by
   intro L it g hi hg he
   obtain ⟨q1,q2,_,_⟩:=rest L it hi
   obtain ⟨L',it',q3,q4,q5⟩:=feetE g he
   exact q2 (hc.sep L L' it it' g q1 q4 hg q5▸q3)
  have hbel:=c2.below
  refine ⟨N,φ2,ξ2,v,rfl,⟨Fz.le_trans hc.le n1,fun g hg=>(n2 g (Nat.lt_of_lt_of_le hg hc.below.size)).trans (hc.same g hg),n3,hc.below.trans ⟨hbel.os,hbel.tape,hbel.output,hbel.size,fun k hk he=>hbel.block k (Nat.lt_of_lt_of_le hk hc.below.size) fun hm=>?_⟩,?_,?_,?_,hnd,fun L hL=>(lo L (Nat.lt_of_lt_of_le hL hK)).trans (hc.keep L hL)⟩,n1,lo,outA_ok n4 hφ hβ hv⟩
  ·obtain ⟨L,it,_,q2,q3⟩:=feetE k hm
   rcases (hc.feet L it k q2 q3).1 with q|q
   ·omega
   ·exact he q
  ·intro L it hi
   rcases List.mem_append.1 hi with hi|hi
   ·obtain ⟨q1,q2,q3,q4⟩:=rest L it hi
    rw [q4,lo L q3]
    refine held_labs (fun l hl=>lo l (hlt l ((mem_labs q1).2 l hl))) (held_kept n1 (hc.items L it q1) fun g hg=>hbel.block g (foot L it q1 g hg) (restE L it g hi hg))
   ·obtain ⟨L',it0,q1,q2,q3⟩:=outH_mem hi
    have q2:L=tauL sg K L':=q2
    have q3:it=renI (tauL sg K) it0:=q3
    rw [q2,hφ,hξ,q3]
    cases z with
    | false=>rw [n4 rfl];exact held_ren (allB_mem hp _ q1) (fun l _=>hφ l) (c2.items L' it0 q1)
    | true=>exact held_ren (allB_mem hp _ q1) (fun l _=>hφ l) (held_flat (allB_mem (hz rfl) _ q1) (c2.items L' it0 q1))
  ·intro L it g hi hg
   rcases List.mem_append.1 hi with hi|hi
   ·obtain ⟨q1,q2,q3,q4⟩:=rest L it hi
    rw [q4] at hg
    obtain ⟨f1,f2⟩:=hc.feet L it g q1 hg
    exact ⟨f1,(n2 g (foot L it q1 g hg)).trans f2⟩
   ·obtain ⟨L',it0,q1,q2,_⟩:=outH_mem hi
    have q2:L=tauL sg K L':=q2
    rw [q2,hξ] at hg
    obtain ⟨f1,f2⟩:=c2.feet L' it0 g q1 hg
    by_cases hlt':g<w.heap.size
    ·have hE:g∈sg.filterMap ξ:=by
      rcases f1 with f1|f1
      ·have f1:w.heap.size≤g:=f1
       omega
      ·exact f1
     obtain ⟨L2,it2,_,q4,q5⟩:=feetE g hE
     obtain ⟨f3,f4⟩:=hc.feet L2 it2 g q4 q5
     exact ⟨f3,(n2 g hlt').trans f4⟩
    ·exact ⟨.inl (Nat.le_trans hc.below.size (by omega)),(n5 g (by omega)).trans f2⟩
  ·intro L L' it it' g hi hi' hg hg'
   have cross:∀L it L2 it2,(L,it)∈remLs sg H→(L2,it2)∈outH sg K Ho→ξ2 L=some g→ξ2 L2=some g→False:=by
    intro L it L2 it2 a1 a2 a3 a4
    obtain ⟨q1,q2,q3,q4⟩:=rest L it a1
    rw [q4] at a3
    obtain ⟨L',it3,r1,r2,_⟩:=outH_mem a2
    have r2:L2=tauL sg K L':=r2
    rw [r2,hξ] at a4
    obtain ⟨f1,_⟩:=c2.feet L' it3 g r1 a4
    have:=foot L it q1 g a3
    rcases f1 with f1|f1
    ·have f1:w.heap.size≤g:=f1
     omega
    ·exact restE L it g a1 a3 f1
   rcases List.mem_append.1 hi with hj|hj<;>rcases List.mem_append.1 hi' with hj'|hj'
   ·obtain ⟨q1,_,_,q4⟩:=rest L it hj
    obtain ⟨q1',_,_,q4'⟩:=rest L' it' hj'
    rw [q4] at hg
    rw [q4'] at hg'
    exact hc.sep L L' it it' g q1 q1' hg hg'
   ·exact (cross L it L' it' hj hj' hg hg').elim
   ·exact (cross L' it' L it hj' hj hg' hg).elim
   ·obtain ⟨L1,i1,r1,r2,_⟩:=outH_mem hj
    obtain ⟨L2,i2,r1',r2',_⟩:=outH_mem hj'
    have r2:L=tauL sg K L1:=r2
    have r2':L'=tauL sg K L2:=r2'
    rw [r2,hξ] at hg
    rw [r2',hξ] at hg'
    rw [r2,r2',c2.sep L1 L2 i1 i2 g r1 r1' hg hg']
 cases z with
 | false =>
  refine (hf.2 ⟨w,M,_,_,hc.over,[]⟩ _ us (begin M (Fz.le_refl _) hc.over (fun L it hm _ g hg=>(hc.feet L it g hm hg).2) hc.over) (g2 rfl)).mono ?_
  rintro e w' ⟨M',φ',ξ',v,rfl,c2,hv⟩
  exact back M M' M' hc.over φ' ξ' w' v c2 hv c2.le c2.same c2.over (fun _=>rfl) (fun _ _=>rfl)
 | true =>
  have lo:=lentM_over (M:=M) (ξ:=ξ) (H:=remLs sg H) hc.over
  refine (hf.2 ⟨w,lentM M ξ (remLs sg H) w,_,_,lo,[]⟩ _ us (begin _ lentM_le lo (fun L it hm hs g hg=>?_) lo) g1).mono ?_
  ·have hMg:=(hc.feet L it g hm hg).2
   unfold lentM
   rw [hMg]
   simp only
   rw [if_neg]
   rintro ⟨L2,it2,q1,q2⟩
   obtain ⟨q3,q4⟩:=remLs_mem q1
   exact q4 (hc.sep L2 L it2 it g q3 hm q2 hg▸hs)
  ·rintro e w' ⟨M',φ',ξ',v,rfl,c2,hv⟩
   let N:Fz:=fun g=>if g<w.heap.size then M g else M' g
   have n2:∀g,g<w.heap.size→N g=M g:=fun g hg=>by show (if g<w.heap.size then M g else M' g)=M g;rw [if_pos hg]
   have n5:∀g,w.heap.size≤g→N g=M' g:=fun g hg=>by show (if g<w.heap.size then M g else M' g)=M' g;rw [if_neg (by omega)]
   have n1:M.le N:=fun g c hg=>by rw [n2 g (ltM g c hg)];exact hg
   have n3:Over N w':=by
    refine ⟨fun g c hg=>?_,hc.over.gl.mono n1⟩
    by_cases hl:g<w.heap.size
    ·rw [n2 g hl] at hg
     obtain ⟨t,fr,e⟩:=hc.over g c hg
     refine ⟨t,fr,(c2.below.block g hl fun hE=>?_).trans e⟩
     obtain ⟨L,q1,q2⟩:=List.mem_filterMap.1 hE
     have hM':M' g=some c:=c2.le g c (lentM_le g c hg)
     have:∃it,(L,it)∈H:=by
      clear begin back c2 hf g1 g2 h hnd hcr hsub hsg p1 p2
      have:∀(r:List Nat) (j:Nat) (Hi:AStore),pickM sg r j H=some Hi→∀L∈r,∃it,(L,it)∈H:=by
       intro r
       induction r with
       | nil=>intro _ _ _ L hL;cases hL
       | cons x r ih =>
        intro j Hi h L hL
        simp only [pickM] at h
        split at h
        ·rename_i it q h1 h2
         rcases List.mem_cons.1 hL with rfl|hL
         ·exact ⟨it,look_mem h1⟩
         ·exact ih _ _ h2 L hL
        ·cases h
      exact this sg 0 Hi hi L q1
     obtain ⟨it,hm⟩:=this
     have:=(hc.feet L it g hm q2).2
     rw [hg] at this
     cases this
    ·rw [n5 g (by omega)] at hg
     exact c2.over g c hg
   exact back _ M' N lo φ' ξ' w' v c2 hv n1 n2 n3 (fun hh=>by cases hh) n5
theorem call_mut (hc:Core P b M φ ξ H w) {f:FuncId} {ps:List PSh} {l l':List AVal} {z:Bool} {C:List Prop} {us:List Value} {β:AVal} {sg:List Nat} {K:Nat} {Hi Ho:AStore} (h:argML P sg (remLs sg H) ps l=some (l',z,C)) (hC:AllP C) (hi:pickM sg sg 0 H=some Hi) (hr:RelVs P M φ l us) (hf:Mut P f sg.length l' Hi β Ho)
  (hsg:sg.Nodup) (hβ:β.okM z=true) (hp:allB AItem.rnB Ho=true) (hz:z=true→allB AItem.flatB Ho=true) (hnd:((remLs sg H++outH sg K Ho).map Prod.fst).Nodup) (hK:n0≤K) (hlt:∀L∈storeLabs H,L<K) :
  Calls P f us.toArray w fun e w'=>∃M' φ' ξ' v,e=.returned v∧Core P b M' φ' ξ' (remLs sg H++outH sg K Ho) w'∧M.le M'∧(∀L,L<K→φ' L=φ L)∧RelV P M' φ' (outA sg K β) v:=call_mutG hc h hC hi hr hf hsg hβ hp hz hnd hK hlt
end
theorem zero_list (z:Array Value):(List.range z.size).map (fun i=>z[i]!)=z.toList:=by
 apply List.ext_getElem
 ·simp
 ·intro i h1 h2
  simp only [List.length_map,List.length_range] at h1
  simp [h1]
theorem zero_cells {z:Array Value}:∀(n:Nat),(Builtin.zeroCells z n).toList=(replicate n z.toList).flatten
 | 0=>by simp [Builtin.zeroCells]
 | n+1=>by
  have ih:=zero_cells (z:=z) n
  simp only [Builtin.zeroCells,Array.toList_map,Array.toList_range] at ih⊢
  rw [Nat.succ_mul,List.range_add,List.map_append,ih,List.replicate_succ',List.flatten_append]
  congr 1
  simp only [List.flatten_cons,List.flatten_nil,List.append_nil,List.map_map]
  rw [← zero_list z]
  apply List.map_congr_left
  intro i hi
  have hi:=List.mem_range.1 hi
  simp only [Function.comp_apply]
  rw [Nat.mul_comm n,Nat.mul_add_mod,Nat.mod_eq_of_lt hi]
section
variable {P:Program} {n0:Nat} {b:Base n0} {M:Fz} {φ:Nat→Value} {ξ:Nat→Option Nat} {H:AStore} {w:World} {ρ:AEnv}
theorem RepL_app2 {α:Type} {R:List Value→α→Prop}:∀{us vs:List Value} {xs ys:List α},RepL R us xs→RepL R vs ys→RepL R (us++vs) (xs++ys)
 | us,vs,[],ys,h,h2=>by cases h;exact h2
 | us,vs,x::xs,ys,⟨c,r,e,h1,h2⟩,h3=>⟨c,r++vs,by rw [e,List.append_assoc],h1,RepL_app2 h2 h3⟩
theorem RepL_rep {α:Type} {R:List Value→α→Prop} {c:List Value} {x:α} (h:R c x):∀n,RepL R (replicate n c).flatten (replicate n x)
 | 0=>rfl
 | n+1=>⟨c,(replicate n c).flatten,by simp [List.replicate_succ],h,RepL_rep h n⟩
def clrA (P:Program) (H:AStore) (T:TypeId):AVal→Option (AStore×List Prop)
 | .sub L sz lo n=>match look H L with
  | some (.row e s xs)=>match slB P T,P.info? e with
   | some e',some i=>match i.zero with
    | some z=>match dec s z.cells.toList with
     | some (d,[])=>if Nat.beq e e'&&rowB P e s&&Nat.beq sz s.size then some (setL H L (.row e s (take lo xs++(replicate n d++drop (lo+n) xs))),[lo+n≤length xs]) else none
     | _=>none
    | none=>none
   | _,_=>none
  | _=>none
 | _=>none
theorem does_clear {T ty:TypeId} {x:Operand} {α:AVal} {N:Nat} {H':AStore} {C:List Prop} {dst pos after guard} (hx:evA P ρ T x=some α) (hb:clrA P H T α=some (H',C)) (hC:AllP C) :
  Does P b ρ H ⟨dst,.call ⟨.builtin .clear,#[x],#[T]⟩,ty,pos,after,guard⟩ (.tup []) H' N:=by
 intro M φ ξ w a hc he
 have hu:=evA_ok he hx
 have exec:∀{r:Value} {w':World},(Builtin.clear_ #[T] ty #[a.eval x]).run P w=.ok r w'→(execOp a.eval ⟨dst,.call ⟨.builtin .clear,#[x],#[T]⟩,ty,pos,after,guard⟩).run P w=.ok (.value r) w':=by
  intro r w' h
  simp [execOp,resolve,invoke,builtin,h]
 have tupl:RelV P M φ (.tup []) (.tuple #[]):=⟨[],rfl,rfl⟩
 unfold clrA at hb
 split at hb
 ·rename_i L sz lo n
  split at hb
  ·rename_i e s xs hl
   split at hb
   ·rename_i e' i hT hi
    split at hb
    ·rename_i z hz
     split at hb
     ·rename_i d hd
      split at hb
      ·rename_i hh
       simp only [Bool.and_eq_true] at hh
       obtain ⟨⟨k1,k2⟩,k3⟩:=hh
       have k1:=Nat.eq_of_beq_eq_true k1
       have k3:=Nat.eq_of_beq_eq_true k3
       subst k1 k3
       simp only [injEq,Prod.mk.injEq] at hb
       obtain ⟨rfl,rfl⟩:=hb
       have hlo:lo+n≤xs.length:=hC.1
       obtain ⟨i',z',hi',hz',hsz,hzs,h0,hf,hv,hp⟩:=rowB_ok k2
       rw [hi] at hi'
       obtain rfl:=inj hi'
       rw [hz] at hz'
       obtain rfl:=inj hz'
       obtain ⟨H1,H2,rfl,hset,_⟩:=look_split hl
       rw [hset]
       obtain ⟨A,m,c,q1,q2,q3,B,e5,q4⟩:=hu
       rw [e5] at exec
       have hm:(L,AItem.row e s xs)∈H1++(L,AItem.row e s xs)::H2:=by simp
       obtain ⟨_,A',cap,h1,h2⟩:=hc.items L _ hm
       rw [h1] at q1
       simp only [Value.slice.injEq] at q1
       obtain ⟨rfl,rfl,rfl⟩:=q1
       obtain ⟨dc,hdc,hdr⟩:=dec_ok (P:=P) (φ:=φ) (M:=M) hd
       rw [List.append_nil] at hdc
       subst hdc
       have hun:=run_underlying (w:=w) (slB_ok hT)
       by_cases hn:n=0
       ·subst hn
        have same:take lo xs++(replicate 0 d++drop (lo+0) xs)=xs:=by simp
        rw [same]
        refine ⟨M,φ,ξ,w,.tuple #[],.inl (exec ?_),hc,he,⟨Fz.le_refl _,fun _ _=>rfl⟩,tupl⟩
        cases B<;>simp [Builtin.clear_,hun]
       ·rcases h2 with ⟨_,rfl,rfl,rfl⟩|⟨g,cc,g1,rfl,⟨fr,g3,gf⟩,g4,g5,g6,g7⟩
        ·simp at hlo;omega
        ·have ea:B=some ⟨g,lo*s.size,none⟩:=by
          rw [q4.1 (by omega)]
          by_cases zz:lo*s.size=0<;>simp [Addr.add,zz]
         subst ea
         have hfl:∀(c:List Value) (x:s.ty),RepC P φ s M c x→c.length=s.size:=fun c y hc=>rep_len hf hc
         have hlen:=RepL_len hfl g7
         obtain ⟨r1,r2⟩:=RepL_cut hfl (n:=lo) (by omega) g7
         obtain ⟨r3,r4⟩:=RepL_cut hfl (n:=n) (xs:=xs.drop lo) (by simp;omega) r2
         rw [show drop n (drop lo xs)=drop (lo+n) xs from List.drop_drop] at r4
         have hrep:=RepL_rep hdr n
         have split:cc.toList=(cc.toList.take (xs.length*s.size)).take (lo*s.size)++(((cc.toList.take (xs.length*s.size)).drop (lo*s.size)).take (n*s.size))++((((cc.toList.take (xs.length*s.size)).drop (lo*s.size)).drop (n*s.size))++cc.toList.drop (xs.length*s.size)):=by
          rw [← List.append_assoc,List.append_assoc ((cc.toList.take (xs.length*s.size)).take (lo*s.size)),List.take_append_drop,List.take_append_drop,List.take_append_drop]
         have l1:((cc.toList.take (xs.length*s.size)).take (lo*s.size)).length=lo*s.size:=by
          rw [RepL_len hfl r1,List.length_take,Nat.min_eq_left (by omega)]
         have l2:(((cc.toList.take (xs.length*s.size)).drop (lo*s.size)).take (n*s.size)).length=(Builtin.zeroCells z.cells n).toList.length:=by
          rw [RepL_len hfl r3,zero_cells,RepL_len hfl hrep,List.length_take,List.length_drop,List.length_replicate,Nat.min_eq_left (by omega)]
         have lx:(((cc.toList.take (xs.length*s.size)).drop (lo*s.size)).take (n*s.size)).length=n*s.size:=by
          rw [l2,zero_cells,RepL_len hfl hrep,List.length_replicate]
         have gb:fr=(0,0)∨((cc.toList.take (xs.length*s.size)).take (lo*s.size)).length+(((cc.toList.take (xs.length*s.size)).drop (lo*s.size)).take (n*s.size)).length≤fr.1:=gf.imp id fun q=>by
          have hs1:s.size=1:=by rw [q.1];rfl
          rw [l1,lx,hs1]
          have:=q.2
          omega
         obtain ⟨w',t1,t2,t3,t4,t5,t6,t7⟩:=run_storeCellsAt (P:=P) (Builtin.zeroCells z.cells n).toList (off:=lo*s.size) (i:=0) gb g3 split (by rw [l1];rfl) l2 (by rw [zero_cells];exact RepL_one (fun c y hc=>rep_one (s:=s) hc) hrep)
         refine ⟨M,φ,ξ,w',.tuple #[],.inl (exec ?_),?_,he,⟨Fz.le_refl _,fun _ _=>rfl⟩,tupl⟩
         ·obtain ⟨n',rfl⟩:∃n',n=n'+1:=⟨n-1,by omega⟩
          simp [Builtin.clear_,hun,zeroValue,typeInfo,hi,hz,t1]
         ·refine hc.write g1 t3 t4 t5 (by omega) (fun k hk=>t7 k hk) ⟨hf,some ⟨g,0,none⟩,cap,?_,.inr ⟨g,_,g1,rfl,⟨fr,t2,gf.imp id fun q=>⟨q.1,by have:=q.2;simp;omega⟩⟩,?_,g5,?_,?_⟩⟩
          ·rw [h1];simp;omega
          ·simp;omega
          ·have:=congrArg length split
           simp only [List.length_append] at this
           rw [← g6]
           simp only [List.size_toArray,List.length_append]
           rw [← l2]
           simpa using this.symm
          ·have all:RepL (RepC P φ s M) ((cc.toList.take (xs.length*s.size)).take (lo*s.size)++((Builtin.zeroCells z.cells n).toList++((cc.toList.take (xs.length*s.size)).drop (lo*s.size)).drop (n*s.size))) (take lo xs++(replicate n d++drop (lo+n) xs)):=RepL_app2 r1 (RepL_app2 (by rw [zero_cells];exact hrep) r4)
           have hal:=RepL_len hfl all
           show RepL _ (take _ (_++_++(_++_))) _
           rw [List.append_assoc,← List.append_assoc _ _ (drop (xs.length*s.size) cc.toList),← List.append_assoc _ _ (drop (xs.length*s.size) cc.toList),List.take_left' hal]
           exact all
      ·cases hb
     ·cases hb
    ·cases hb
   ·cases hb
  ·cases hb
 ·cases hb
end
section
variable {P:Program} {n0:Nat} {b:Base n0} {M:Fz} {φ:Nat→Value} {ξ:Nat→Option Nat} {H:AStore} {w:World} {ρ:AEnv}
def newsV (H:AStore) (s:Sh):AVal→Option (List s.ty×List Prop)
 | .sub L sz lo m=>match look H L with
  | some (.row _ t ys)=>if h:t=s then (if Nat.beq sz s.size then some (h▸((ys.drop lo).take m),[lo+m≤ys.length]) else none) else none
  | _=>none
 | α=>match newsA H s α with
  | some ys=>some (ys,[])
  | none=>none
theorem newsV_ok (hc:Core P b M φ ξ H w) {s:Sh} {α:AVal} {ys:List s.ty} {C:List Prop} {u:Value} (hu:RelV P M φ α u) (h:newsV H s α=some (ys,C)) (hC:AllP C):∃A c news,u=.slice A ys.length c∧RepL (RepC P φ s M) news ys∧(∀q,q<news.length→∃a,A=some a∧a.spot=none)∧∀a,A=some a→∀j v,news[j]?=some v→w.cell? (a.add j)=some v:=by
 unfold newsV at h
 split at h
 ·split at h
  ·rename_i L sz lo m _ e t xs hl
   split at h
   ·rename_i e'
    subst e'
    split at h
    ·rename_i hs
     have hs:=Nat.eq_of_beq_eq_true hs
     subst hs
     simp only [injEq,Prod.mk.injEq] at h
     obtain ⟨rfl,rfl⟩:=h
     have hlo:lo+m≤xs.length:=hC.1
     obtain ⟨A,m',c',q1,q2,q3,B,rfl,q4⟩:=hu
     obtain ⟨hf,A',cap,h1,h2⟩:=hc.items L _ (look_mem hl)
     rw [h1] at q1
     simp only [Value.slice.injEq] at q1
     obtain ⟨rfl,rfl,rfl⟩:=q1
     have hlen:((xs.drop lo).take m).length=m:=by simp;omega
     rw [hlen]
     rcases Nat.eq_zero_or_pos m with hm|hm
     ·subst hm
      exact ⟨B,_,[],rfl,by simp [RepL],fun q hq=>(by cases hq),fun a ha j v hj=>(by simp at hj)⟩
     ·rcases h2 with ⟨_,rfl,rfl,rfl⟩|⟨g,c,g1,rfl,⟨fr,g3,gf⟩,g4,g5,g6,g7⟩
      ·simp at hlo;omega
      ·have hfl:∀(c:List Value) (x:t.ty),RepC P φ t M c x→c.length=t.size:=fun c y hc=>rep_len hf hc
       have hvl:=RepL_len hfl g7
       have r2:=(RepL_cut hfl (n:=lo) (by omega) g7).2
       have r3:=(RepL_cut hfl (n:=m) (by simp;omega) r2).1
       refine ⟨B,_,_,rfl,r3,fun q hq=>?_,fun a ha j v hj=>?_⟩
       ·rw [q4.1 (by omega)]
        exact ⟨_,rfl,by simp [Addr.add];split<;>rfl⟩
       ·rw [q4.1 (by omega)] at ha
        simp only [Option.map_some,injEq] at ha
        subst ha
        have hj':=(List.getElem?_eq_some_iff.1 hj).1
        have hj2:j<m*t.size:=by rw [RepL_len hfl r3] at hj';rwa [hlen] at hj'
        rw [List.getElem?_take_of_lt hj2,List.getElem?_drop] at hj
        have ea:((⟨g,0,none⟩:Addr).add (lo*t.size)).add j=⟨g,lo*t.size+j,none⟩:=by
         rw [addz,Nat.zero_add,addz]
        rw [ea]
        have hj3:=(List.getElem?_eq_some_iff.1 hj).1
        rw [List.getElem?_take_of_lt (by rw [List.length_take] at hj3;omega)] at hj
        simp [World.cell?,g3]
        simpa using hj
    ·cases h
   ·cases h
  ·cases h
 ·split at h
  ·rename_i ys' hn
   simp only [injEq,Prod.mk.injEq] at h
   obtain ⟨rfl,rfl⟩:=h
   exact newsA_ok hc hu hn
  ·cases h
def appV (P:Program) (H:AStore) (T:TypeId):AVal→AVal→Option (AVal×AStore×List Prop)
 | .sub L sz lo n,γ=>match look H L,slB P T with
  | some (.row e s xs),some e'=>if Nat.beq e e'&&rowB P e s&&Nat.beq sz s.size&&Nat.beq lo 0 then match newsV H s γ with
   | some (ys,C)=>some (.sub L sz 0 (n+ys.length),setL H L (.row e s (xs.take n++(ys++xs.drop (n+ys.length)))),C++[n+ys.length≤xs.length])
   | none=>none
   else none
  | _,_=>none
 | _,_=>none
theorem does_appV {T ty:TypeId} {x y:Operand} {α γ β:AVal} {N:Nat} {H':AStore} {C:List Prop} {dst pos after guard} (hx:evA P ρ T x=some α) (hy:evA P ρ T y=some γ) (hb:appV P H T α γ=some (β,H',C)) (hC:AllP C) :
  Does P b ρ H ⟨dst,.call ⟨.builtin .append,#[x,y],#[T,T]⟩,ty,pos,after,guard⟩ β H' N:=by
 intro M φ ξ w a hc he
 have hu:=evA_ok he hx
 have hv:=evA_ok he hy
 have exec:∀{r:Value} {w':World},(Builtin.append_ #[T,T] ty #[a.eval x,a.eval y]).run P w=.ok r w'→(execOp a.eval ⟨dst,.call ⟨.builtin .append,#[x,y],#[T,T]⟩,ty,pos,after,guard⟩).run P w=.ok (.value r) w':=by
  intro r w' h
  simp [execOp,resolve,invoke,builtin,h]
 unfold appV at hb
 split at hb
 ·rename_i L sz lo n
  split at hb
  ·rename_i e s xs e' hl hT
   split at hb
   ·rename_i hh
    simp only [Bool.and_eq_true] at hh
    obtain ⟨⟨⟨k1,k2⟩,k3⟩,k4⟩:=hh
    have k1:=Nat.eq_of_beq_eq_true k1
    have k3:=Nat.eq_of_beq_eq_true k3
    have k4:=Nat.eq_of_beq_eq_true k4
    subst k1 k3 k4
    split at hb
    ·rename_i ys C' hny
     simp only [injEq,Prod.mk.injEq] at hb
     obtain ⟨rfl,rfl,rfl⟩:=hb
     obtain ⟨c1,c2,_⟩:=AllP.app hC
     obtain ⟨i,z,hi,hz,hsz,hzs,h0,hf,hv1,hp⟩:=rowB_ok k2
     obtain ⟨B,m,news,e1,e2,e3,e4⟩:=newsV_ok hc hv hny c1
     obtain ⟨H1,H2,rfl,hset,_⟩:=look_split hl
     rw [hset]
     obtain ⟨A,m',c,q1,q2,q3,D,e5,q4⟩:=hu
     have hm:(L,AItem.row e s xs)∈H1++(L,AItem.row e s xs)::H2:=by simp
     obtain ⟨_,A',cap,h1,h2⟩:=hc.items L _ hm
     rw [h1] at q1
     simp only [Value.slice.injEq] at q1
     obtain ⟨rfl,rfl,rfl⟩:=q1
     rw [e5,e1,Nat.sub_zero] at exec
     by_cases hy0:ys=[]
     ·subst hy0
      have same:xs.take n++([]++xs.drop (n+([]:List s.ty).length))=xs:=by simp
      rw [same]
      refine ⟨M,φ,ξ,w,_,.inl (exec (run_app0 (slB_ok hT) ⟨s.size,by simp [szB,hi,hsz]⟩ (by omega) w)),hc,he,⟨Fz.le_refl _,fun _ _=>rfl⟩,A',xs.length,cap,h1,by simp at c2 ⊢;omega,q3,D,by simp,q4⟩
     ·have hyl:0<ys.length:=List.length_pos_iff.2 hy0
      rcases h2 with ⟨_,rfl,rfl,rfl⟩|⟨g,cc,g1,rfl,⟨fr,g3,gf⟩,g4,g5,g6,g7⟩
      ·simp only [List.length_nil] at c2;omega
      ·obtain rfl:fr=(0,0):=gf.elim id fun q=>absurd q.1 (rowB_mb k2)
       have ea:D=some ⟨g,0,none⟩:=by
        rw [q4.1 (by omega)]
        simp [Addr.add]
       subst ea
       have hfl:∀(c:List Value) (x:s.ty),RepC P φ s M c x→c.length=s.size:=fun c y hc=>rep_len hf hc
       have hnl:=RepL_len hfl e2
       obtain ⟨a',hB,_⟩:=e3 0 (by rw [hnl];exact Nat.mul_pos hyl h0)
       subst hB
       have hfit:n*i.size+news.length≤cc.size:=by rw [hnl,g6,hsz,← Nat.add_mul];exact Nat.mul_le_mul_right _ (by omega)
       have hr:=run_append_room (P:=P) w T ty e i (slB_ok hT) hi g n cap cc g3 a' ys.length m news (by rw [hnl,hsz]) (e4 a' rfl) (RepL_one (fun c y hc=>rep_one (s:=s) hc) e2) (by omega) hfit
       obtain ⟨r1,_⟩:=RepL_cut hfl (n:=n) (by omega) g7
       obtain ⟨_,r2⟩:=RepL_cut hfl (n:=n+ys.length) c2 g7
       refine ⟨M,φ,ξ,_,_,.inl (exec hr),?_,he,⟨Fz.le_refl _,fun _ _=>rfl⟩,some ⟨g,0,none⟩,xs.length,cap,h1,by omega,q3,some ⟨g,0,none⟩,by simp,q4⟩
       refine hc.write g1 rfl rfl rfl (by simp) (fun k hk=>setRow_other w g k _ (fun e=>hk (by simp [e]))) ⟨hf,some ⟨g,0,none⟩,cap,?_,.inr ⟨g,_,g1,rfl,⟨_,setRow_heap w g cc _ e _ g3,.inl rfl⟩,?_,g5,?_,?_⟩⟩
       ·rw [h1];simp;omega
       ·simp;omega
       ·simp only [List.size_toArray,List.length_append,List.length_take,List.length_drop,Array.length_toList]
        omega
       ·have all:=RepL_app2 r1 (RepL_app2 e2 r2)
        have hal:=RepL_len hfl all
        show RepL _ (take _ _) _
        have hl2:(xs.take n++(ys++xs.drop (n+ys.length))).length=xs.length:=by simp;omega
        rw [hl2]
        rw [hl2] at hal
        have hle:xs.length*s.size≤cc.toList.length:=by
         rw [show cc.toList.length=cap*s.size from (Array.length_toList).trans g6];exact Nat.mul_le_mul_right _ g4
        have et:(cc.toList.take (n*i.size)++news++cc.toList.drop (n*i.size+news.length)).take (xs.length*s.size)=(cc.toList.take (xs.length*s.size)).take (n*s.size)++(news++(cc.toList.take (xs.length*s.size)).drop ((n+ys.length)*s.size)):=by
         have hn1:n*s.size≤xs.length*s.size:=Nat.mul_le_mul_right _ (by omega)
         rw [hsz,hnl,← Nat.add_mul,List.take_take,Nat.min_eq_left hn1,List.append_assoc,List.take_append,List.take_append,List.drop_take]
         have l1:(cc.toList.take (n*s.size)).length=n*s.size:=by rw [List.length_take];omega
         rw [l1,hnl,List.take_of_length_le (l:=cc.toList.take (n*s.size)) (by rw [l1];exact hn1)]
         have l2:ys.length*s.size≤xs.length*s.size-n*s.size:=by
          have:=Nat.mul_le_mul_right s.size c2
          rw [Nat.add_mul] at this
          omega
         rw [List.take_of_length_le (l:=news) (by rw [hnl];exact l2),Nat.add_mul,Nat.sub_sub]
        rw [et]
        exact all
    ·cases hb
   ·cases hb
  ·cases hb
 ·cases hb
end
def byI (x:Str):List Int:=x.map fun b=>((b.toNat:Nat):Int)
def byB (P:Program) (e:TypeId):Bool:=match P.info? e with
 | some i=>(match i.zero with|some (.int .u8 0)=>true|_=>false)&&Nat.beq i.size 1&&Nat.beq i.bytes 1
 | none=>false
def strT (P:Program) (u:TypeId):Bool:=match P.underlying u with
 | some .string=>true
 | _=>false
def appS (P:Program) (n0:Nat) (ρ:AEnv) (H:AStore) (T U:TypeId) (N:Nat):AVal→AVal→Option (AVal×AStore×List Prop)
 | .row L,.v .str x=>match look H L,slB P T with
  | some (.row e (.int .u8) xs),some e'=>if Nat.beq e e'&&byB P e&&strT P U&&freshB n0 N ρ H then
    some (.row N,(N,.row e (.int .u8) (xs++byI x))::remL H L,[xs.length+x.length≤140737488355328])
   else none
  | _,_=>none
 | _,_=>none
section
variable {P:Program} {n0:Nat} {b:Base n0} {M:Fz} {φ:Nat→Value} {ξ:Nat→Option Nat} {H:AStore} {w:World} {ρ:AEnv}
theorem byB_ok {e:TypeId} (h:byB P e=true):∃i,P.info? e=some i∧i.zero=some (.int .u8 0)∧i.size=1∧i.bytes=1:=by
 unfold byB at h
 split at h
 ·rename_i i hi
  simp only [Bool.and_eq_true] at h
  obtain ⟨⟨h1,h2⟩,h3⟩:=h
  refine ⟨i,hi,?_,Nat.eq_of_beq_eq_true h2,Nat.eq_of_beq_eq_true h3⟩
  split at h1
  ·rename_i hz;exact hz
  ·cases h1
 ·cases h
theorem strT_ok {u:TypeId} (h:strT P u=true):P.underlying u=some .string:=by
 unfold strT at h
 split at h
 ·assumption
 ·cases h
theorem rep_byI:∀x:Str,RepL (RepC P φ (.int .u8) M) (Lib.strCells (bs x)) (byI x)
 | []=>rfl
 | c::x=>⟨[.int .u8 ((c.toNat:Nat):Int)],Lib.strCells (bs x),by simp [Lib.strCells,bs],⟨rfl,by have:=c.toNat_lt;simp [IntKind.has,IntKind.min,IntKind.max,IntKind.signed,IntKind.bits];omega⟩,rep_byI x⟩
theorem run_appS {t u ty e:TypeId} {A:Option Addr} {o:Option Nat} {n cap:Nat} {xs:List Int} {x:Str} {olds:List Value} (hT:P.underlying t=some (.slice e)) (hU:P.underlying u=some .string) (hb:byB P e=true)
  (hx:RepL (RepC P φ (.int .u8) M) olds xs) (hxl:xs.length=n) (hcap:n≤cap) (hcm:cap≤maxLen)
  (hold:(cap=0∧o=none)∨∃g c,o=some g∧A=some ⟨g,0,none⟩∧w.heap[g]?=some (.cells c e (0,0))∧c.size=cap∧c.toList.take n=olds)
  (h1:n+x.length≤140737488355328) :
  ∃A' cap' w',(Builtin.append_ #[t,u] ty #[.slice A n cap,.string (bs x)]).run P w=.ok (.slice A' (n+x.length) cap') w'∧w'.os=w.os∧w'.tape=w.tape∧w'.output=w.output∧w.heap.size≤w'.heap.size ∧
   (∀k,k<w.heap.size→o≠some k→w'.heap[k]?=w.heap[k]?) ∧
   ((x=[]∧A'=A∧cap'=cap∧w'=w)∨∃g c,A'=some ⟨g,0,none⟩∧(g=w.heap.size∨o=some g)∧w'.heap[g]?=some (.cells c e (0,0))∧n+x.length≤cap'∧cap'≤maxLen∧c.size=cap'∧RepL (RepC P φ (.int .u8) M) (c.toList.take (n+x.length)) (xs++byI x)):=by
 obtain ⟨i,hi,hz,hsz,hby⟩:=byB_ok hb
 have hol:olds.length=n:=by have:=RepL_len (k:=1) (fun c y hc=>rep_len (s:=.int .u8) rfl hc) hx;omega
 have hsl:(bs x).size=x.length:=by simp [bs,ByteArray.size]
 have hnl:(Lib.strCells (bs x)).length=x.length:=by rw [Lib.strCells_length,hsl]
 have hrep:=repL_app hx (rep_byI (P:=P) (φ:=φ) (M:=M) x)
 rcases Nat.eq_zero_or_pos x.length with hy0|hy0
 ·have hys:x=[]:=List.eq_nil_of_length_eq_zero hy0
  subst hys
  have hf:=Lib.run_firstCells_string (P:=P) w 1 (bs [])
  refine ⟨A,cap,w,?_,rfl,rfl,rfl,Nat.le_refl _,fun _ _ _=>rfl,.inl ⟨rfl,rfl,rfl,rfl⟩⟩
  have hb0:(bs []).size=0:=rfl
  have hc0:Lib.strCells (bs [])=[]:=rfl
  rw [hb0,hc0] at hf
  cases A with
  | none=>simp [Builtin.append_,run_underlying hT,run_underlying hU,sizeOf,typeInfo,hi,hsz,Builtin.lenOf,hcap,hb0,hf]
  | some a=>simp [Builtin.append_,run_underlying hT,run_underlying hU,sizeOf,typeInfo,hi,hsz,Builtin.lenOf,hcap,hb0,hf,storeCells]
 ·have h2:n+x.length≤maxLen:=by unfold maxLen;omega
  have fin:∀old,(w.drew.alloc (.cells (olds.toArray++(Lib.strCells (bs x)).toArray++Builtin.zeroCells (Value.int .u8 0).cells (grownCap w (n+x.length) old e-(n+x.length))) e)).heap[w.heap.size]?=some (.cells (olds.toArray++(Lib.strCells (bs x)).toArray++Builtin.zeroCells (Value.int .u8 0).cells (grownCap w (n+x.length) old e-(n+x.length))) e (0,0)):=fun old=>heap_alloc_new w.drew _
  have hz1:(Value.int .u8 0).cells.size=1:=rfl
  have big:∀old,(olds.toArray++(Lib.strCells (bs x)).toArray++Builtin.zeroCells (Value.int .u8 0).cells (grownCap w (n+x.length) old e-(n+x.length))).size=grownCap w (n+x.length) old e ∧
    RepL (RepC P φ (.int .u8) M) ((olds.toArray++(Lib.strCells (bs x)).toArray++Builtin.zeroCells (Value.int .u8 0).cells (grownCap w (n+x.length) old e-(n+x.length))).toList.take (n+x.length)) (xs++byI x):=by
   intro old
   have hge:=grownCap_ge w (n+x.length) old e
   constructor
   ·simp only [Array.size_append,List.size_toArray,size_zeroCells,hz1,hol,hnl,Nat.mul_one]
    omega
   ·have:(olds.toArray++(Lib.strCells (bs x)).toArray++Builtin.zeroCells (Value.int .u8 0).cells (grownCap w (n+x.length) old e-(n+x.length))).toList.take (n+x.length)=olds++Lib.strCells (bs x):=by
     simp only [Array.toList_append]
     rw [List.take_append_of_le_length (by simp [hol,hnl]),List.take_of_length_le (by simp [hol,hnl])]
    rw [this]
    exact hrep
  have grow:∀old,∃cap' w',w'=w.drew.alloc (.cells (olds.toArray++(Lib.strCells (bs x)).toArray++Builtin.zeroCells (Value.int .u8 0).cells (grownCap w (n+x.length) old e-(n+x.length))) e)∧cap'=grownCap w (n+x.length) old e∧w'.os=w.os∧w'.tape=w.tape∧w'.output=w.output∧w.heap.size≤w'.heap.size∧(∀k,k<w.heap.size→w'.heap[k]?=w.heap[k]?)∧n+x.length≤cap'∧cap'≤maxLen :=
   fun old=>⟨_,_,rfl,rfl,rfl,rfl,rfl,by simp,fun k hk=>heap_alloc_old w.drew _ hk,grownCap_ge _ _ _ _,grownCap_le_maxLen w (n+x.length) old e h2⟩
  rcases hold with ⟨hc0,rfl⟩|⟨g,c,rfl,rfl,hg,hcs,htk⟩
  ·have hn0:n=0:=by omega
   have ho0:olds=[]:=List.eq_nil_of_length_eq_zero (by omega)
   subst hc0
   cases A with
   | none =>
    have hr:=run_append_nil_string (P:=P) w t u ty e i _ hT hU hi hz (bs x) (by omega) (by omega) (by rw [hby];omega)
    rw [hsl] at hr
    obtain ⟨cap',w',rfl,rfl,g1,g2,g3,g4,g5,g6,g7⟩:=grow 0
    refine ⟨_,_,_,?_,g1,g2,g3,g4,fun k hk _=>g5 k hk,.inr ⟨w.heap.size,_,rfl,.inl rfl,fin 0,g6,g7,(big 0).1,(big 0).2⟩⟩
    subst hn0
    rw [hr]
    subst ho0
    have e1:(bs x).data.map (fun b=>Value.int .u8 (b.toNat:Int))=(Lib.strCells (bs x)).toArray:=by apply Array.ext';simp [Lib.strCells]
    rw [e1]
    simp
   | some b0 =>
    have hr:=Lib.run_append_grow_string (P:=P) w t u ty e i _ hT hU hi hz b0 n 0 olds (by rw [hsz];omega) (by subst ho0;intro j v hj;simp at hj) (bs x) (by omega) (by omega) (by rw [hby,hsl];exact growslice_fits (by omega) (by omega))
    rw [hsl] at hr
    obtain ⟨cap',w',rfl,rfl,g1,g2,g3,g4,g5,g6,g7⟩:=grow 0
    exact ⟨_,_,_,hr,g1,g2,g3,g4,fun k hk _=>g5 k hk,.inr ⟨w.heap.size,_,rfl,.inl rfl,fin 0,g6,g7,(big 0).1,(big 0).2⟩⟩
  ·by_cases hroom:n+x.length≤cap
   ·have hr:=Lib.run_append_room_string (P:=P) w t u ty e i hT hU hi hsz g n cap c hg (bs x) (by omega) (by omega)
    rw [hsl] at hr
    refine ⟨_,_,_,hr,rfl,rfl,rfl,by simp,fun k _ hk=>setRow_other w g k _ (fun e=>hk (by simp [e])),.inr ⟨g,_,rfl,.inr rfl,setRow_heap w g c _ e _ hg,hroom,hcm,?_,?_⟩⟩
    ·simp only [List.size_toArray,List.length_append,List.length_take,List.length_drop,Array.length_toList]
     omega
    ·rw [htk]
     have:(olds++Lib.strCells (bs x)++c.toList.drop (n+x.length)).take (n+x.length)=olds++Lib.strCells (bs x):=by
      rw [List.take_append_of_le_length (by simp [hol,hnl]),List.take_of_length_le (by simp [hol,hnl])]
     simp only
     rw [this]
     exact hrep
   ·have holds:∀j u,olds[j]?=some u→w.cell? ((⟨g,0,none⟩:Addr).add j)=some u:=by
     intro j u hj
     rw [addz,Nat.zero_add]
     have hj':=(List.getElem?_eq_some_iff.1 hj).1
     rw [← htk,List.getElem?_take_of_lt (by rw [← htk,List.length_take] at hj';omega)] at hj
     simp [World.cell?,hg]
     simpa using hj
    have hr:=Lib.run_append_grow_string (P:=P) w t u ty e i _ hT hU hi hz ⟨g,0,none⟩ n cap olds (by rw [hsz];omega) holds (bs x) (by omega) (by omega) (by rw [hby,hsl];exact growslice_fits (by omega) (by omega))
    rw [hsl] at hr
    obtain ⟨cap',w',rfl,rfl,g1,g2,g3,g4,g5,g6,g7⟩:=grow cap
    exact ⟨_,_,_,hr,g1,g2,g3,g4,fun k hk _=>g5 k hk,.inr ⟨w.heap.size,_,rfl,.inl rfl,fin cap,g6,g7,(big cap).1,(big cap).2⟩⟩
theorem does_appS {T U ty:TypeId} {x y:Operand} {α γ β:AVal} {N:Nat} {H':AStore} {C:List Prop} {dst pos after guard} (hx:evA P ρ T x=some α) (hy:evA P ρ U y=some γ) (hb:appS P n0 ρ H T U N α γ=some (β,H',C)) (hC:AllP C) :
  Does P b ρ H ⟨dst,.call ⟨.builtin .append,#[x,y],#[T,U]⟩,ty,pos,after,guard⟩ β H' N:=by
 intro M φ ξ w a hc he
 have hu:=evA_ok he hx
 have hv:=evA_ok he hy
 have exec:∀{r:Value} {w':World},(Builtin.append_ #[T,U] ty #[a.eval x,a.eval y]).run P w=.ok r w'→(execOp a.eval ⟨dst,.call ⟨.builtin .append,#[x,y],#[T,U]⟩,ty,pos,after,guard⟩).run P w=.ok (.value r) w':=by
  intro r w' h
  simp [execOp,resolve,invoke,builtin,h]
 unfold appS at hb
 split at hb
 ·rename_i L t
  split at hb
  ·rename_i e xs e' hl hT
   split at hb
   ·rename_i hh
    simp only [Bool.and_eq_true] at hh
    obtain ⟨⟨⟨k1,k2⟩,k4⟩,k3⟩:=hh
    have k1:=Nat.eq_of_beq_eq_true k1
    subst k1
    simp only [injEq,Prod.mk.injEq] at hb
    obtain ⟨rfl,rfl,rfl⟩:=hb
    obtain ⟨c1,_⟩:=hC
    obtain ⟨e5,_⟩:=hu
    obtain ⟨_,cs,e6,e7,_⟩:=hv
    subst e7
    have e6:a.eval y=.string (bs t):=e6
    obtain ⟨hf,A,cap,h1,h2⟩:=hc.items L _ (look_mem hl)
    obtain ⟨H1,H2,hH,_,hrem⟩:=look_split hl
    rw [e5,h1,e6] at exec
    have olds:∃olds,RepL (RepC P φ (.int .u8) M) olds xs∧xs.length≤cap∧cap≤maxLen∧((cap=0∧ξ L=none)∨∃g c,ξ L=some g∧A=some ⟨g,0,none⟩∧w.heap[g]?=some (.cells c e (0,0))∧c.size=cap∧c.toList.take xs.length=olds):=by
     rcases h2 with ⟨h2,rfl,rfl,rfl⟩|⟨g,c,h2,rfl,⟨fr,h4,hfr⟩,h5,h6,h7,h8⟩
     ·exact ⟨[],rfl,Nat.le_refl _,by simp [maxLen],.inl ⟨rfl,h2⟩⟩
     ·obtain rfl:fr=(0,0):=hfr.elim id fun q=>(by cases q.1)
      refine ⟨_,?_,h5,h6,.inr ⟨g,c,h2,rfl,h4,by simpa [Sh.size] using h7,rfl⟩⟩
      have:xs.length*(Sh.int .u8).size=xs.length:=by simp [Sh.size]
      rw [this] at h8
      exact h8
    obtain ⟨olds,o1,o2,o3,o4⟩:=olds
    obtain ⟨A',cap',w',r1,r2,r3,r4,r5,r6,r7⟩:=run_appS (ty:=ty) (slB_ok hT) (strT_ok k4) k2 o1 rfl o2 o3 o4 c1
    rw [hrem]
    subst hH
    have hbl:(byI t).length=t.length:=by simp [byI]
    rcases r7 with ⟨rfl,rfl,rfl,rfl⟩|⟨g,c,rfl,q2,q3,q4,q5,q6,q7⟩
    ·refine ⟨M,upd φ N _,upd ξ N (ξ L),w',_,.inl (exec r1),?_,he.labs (fresh_env k3 _ _),⟨Fz.le_refl _,fun l hl=>upd_ne (by omega)⟩,by rw [RelV,upd_same];exact ⟨rfl,rfl⟩⟩
     refine hc.repl k3 r2 r3 r4 r5 r6 ⟨hf,A',cap',by simp [byI],?_⟩ (fun g hg=>.inr hg)
     rcases h2 with ⟨h2,rfl,rfl,rfl⟩|⟨g,c,h2,rfl,h4,h5,h6,h7,h8⟩
     ·exact .inl ⟨h2,rfl,rfl,rfl⟩
     ·refine .inr ⟨g,c,h2,rfl,by simpa [byI] using h4,by simpa [byI] using h5,h6,h7,?_⟩
      rw [show byI []=[] from rfl,List.append_nil]
      exact rep_pers (s:=.lst (.int .u8)) rfl h8
    ·refine ⟨M,upd φ N _,upd ξ N (some g),w',_,.inl (exec r1),?_,he.labs (fresh_env k3 _ _),⟨Fz.le_refl _,fun l hl=>upd_ne (by omega)⟩,by rw [RelV,upd_same];exact ⟨rfl,rfl⟩⟩
     refine hc.repl k3 r2 r3 r4 r5 r6 ⟨hf,_,cap',by simp [hbl],.inr ⟨g,c,rfl,rfl,⟨_,q3,.inl rfl⟩,by simpa [hbl] using q4,q5,by simpa [Sh.size] using q6,?_⟩⟩ (fun g' hg=>?_)
     ·have:(xs++byI t).length*(Sh.int .u8).size=xs.length+t.length:=by simp [Sh.size,hbl]
      rw [this]
      exact rep_pers (s:=.lst (.int .u8)) rfl q7
     ·obtain rfl:=inj hg
      rcases q2 with h|h
      ·exact .inl (Nat.le_of_eq h.symm)
      ·exact .inr h
   ·cases hb
  ·cases hb
 ·cases hb
def mkB (P:Program) (n0:Nat) (ρ:AEnv) (H:AStore) (s t:TypeId) (L:Nat):AVal→Option (AVal×AStore×List Prop)
 | .v .str x=>match P.underlying t with
  | some (.slice e)=>if isStr P s&&byT P t&&freshB n0 L ρ H then some (.row L,(L,.row e .mb (byI x))::H,[]) else none
  | _=>none
 | _=>none
theorem rep_byM:∀x:Str,RepL (RepC P φ .mb M) (Lib.strCells (bs x)) (byI x)
 | []=>rfl
 | c::x=>⟨[.int .u8 ((c.toNat:Nat):Int)],Lib.strCells (bs x),by simp [Lib.strCells,bs],⟨rfl,by have:=c.toNat_lt;simp [IntKind.has,IntKind.min,IntKind.max,IntKind.signed,IntKind.bits];omega⟩,rep_byM x⟩
theorem does_cvB {s t:TypeId} {x:Operand} {α β:AVal} {L:Nat} {H':AStore} {C:List Prop} {dst pos after guard ty} (h:evA P ρ s x=some α) (hb:mkB P n0 ρ H s t L α=some (β,H',C)):Does P b ρ H ⟨dst,.convert s t x,ty,pos,after,guard⟩ β H' L:=by
 intro M φ ξ w a hc he
 unfold mkB at hb
 split at hb
 ·rename_i l
  split at hb
  ·rename_i e ht
   split at hb
   ·rename_i hh
    simp only [Bool.and_eq_true] at hh
    obtain ⟨⟨h1,h2⟩,hL⟩:=hh
    simp only [injEq,Prod.mk.injEq] at hb
    obtain ⟨rfl,rfl,rfl⟩:=hb
    obtain ⟨e',h3,h4⟩:=byT_ok h2
    rw [ht] at h3
    obtain rfl:e=e':=by simpa using h3
    obtain ⟨hu,hl⟩:=str_val (evA_ok he h)
    have hr:=run_bytes_of_string (P:=P) w s t e (bs l) (isStr_ok h1) ht h4
    have hbl:(byI l).length=l.length:=by simp [byI]
    have hsz:(bs l).size=l.length:=by simp [bs,ByteArray.size]
    have hge:=grownCap_ge w l.length 0 e
    refine ⟨M,upd φ L _,upd ξ L (some w.heap.size),w.drew.alloc (.cells (bytesRow (bs l) (grownCap w (bs l).size 0 e)) e ((bytesRow (bs l) (grownCap w (bs l).size 0 e)).size,(bytesRow (bs l) (grownCap w (bs l).size 0 e)).size+1)),.slice (some ⟨w.heap.size,0,none⟩) (bs l).size (grownCap w (bs l).size 0 e),.inl ?_,?_,he.labs (fresh_env hL _ _),⟨Fz.le_refl _,fun l hl=>upd_ne (by omega)⟩,by rw [RelV,upd_same];exact ⟨rfl,rfl⟩⟩
    ·show (vN (convert s t (a.eval x))).run P w=_
     refine vN_run ?_
     rw [hu]
     exact hr
    ·have hcells:(bytesRow (bs l) (grownCap w (bs l).size 0 e)).size=grownCap w (bs l).size 0 e:=by
      rw [hsz]
      simp [bytesRow,bs]
      have:(⟨l.toArray⟩:ByteArray).size=l.length:=rfl
      omega
     have hnew:=heap_alloc_new w.drew (.cells (bytesRow (bs l) (grownCap w (bs l).size 0 e)) e ((bytesRow (bs l) (grownCap w (bs l).size 0 e)).size,(bytesRow (bs l) (grownCap w (bs l).size 0 e)).size+1))
     refine (hc.draws 1).grow (L:=L) hL rfl rfl rfl (by simp) (fun k hk=>heap_alloc_old w.drew _ hk) ⟨rfl,some ⟨w.heap.size,0,none⟩,grownCap w (bs l).size 0 e,by rw [hbl,hsz],.inr ⟨w.heap.size,_,rfl,rfl,⟨_,hnew,.inr ⟨rfl,?_⟩⟩,?_,grownCap_le_maxLen w _ 0 e (by rw [hsz];exact hl),?_,?_⟩⟩ (fun g hg=>by cases hg;exact Nat.le_refl _)
     ·rw [hcells,hbl,hsz];exact hge
     ·rw [hbl,hsz];exact hge
     ·rw [hcells];simp [Sh.size]
     ·have:(byI l).length*Sh.mb.size=(Lib.strCells (bs l)).length:=by rw [Lib.strCells_length,hsz,hbl];simp [Sh.size]
      rw [this]
      have e2:(bytesRow (bs l) (grownCap w (bs l).size 0 e)).toList.take (Lib.strCells (bs l)).length=Lib.strCells (bs l):=by
       rw [Lib.strCells_length,hsz]
       simp [bytesRow,bs,Lib.strCells]
      rw [e2]
      exact rep_byM l
   ·cases hb
  ·cases hb
 ·cases hb
end
def updM {α:Type} (k:Sh) (key:k.ty) (u:α) (l:List (k.ty×α)):List (k.ty×α):=match findM k key l 0 with
 | some r=>l.set r.1 (key,u)
 | none=>l++[(key,u)]
def mkmA (P:Program) (n0:Nat) (ρ:AEnv) (H:AStore) (T:TypeId) (L:Nat):Option (AVal×AStore):=match mapB P T with
 | some (kt,et)=>if eqTB P kt (shOf P false 20 kt)&&(shOf P false 20 kt).pers&&(shOf P false 20 et).fixed&&(shOf P false 20 et).pers&&freshB n0 L ρ H then some (.row L,(L,.mp T (shOf P false 20 kt) (shOf P false 20 et) [])::H) else none
 | none=>none
def mupA (P:Program) (H:AStore) (T:TypeId):AVal→AVal→AVal→Option AStore
 | .row L,.v k' key,.v v' u=>match look H L with
  | some (.mp T' k v x)=>if h:k'=k then if h2:v'=v then match mapB P T with
   | some (kt,_)=>if eqTB P kt k&&Nat.beq T T' then some (setL H L (.mp T' k v (updM k (h▸key) (h2▸u) x))) else none
   | none=>none
   else none
   else none
  | _=>none
 | _,_,_=>none
def entM {α:Type} (k:Sh) (key:k.ty) (d:α) (l:List (k.ty×α)):List (k.ty×α):=match findM k key l 0 with
 | some _=>l
 | none=>l++[(key,d)]
def entV {α:Type} (k:Sh) (key:k.ty) (d:α) (l:List (k.ty×α)):α×Int:=match findM k key l 0 with
 | some r=>(r.2,((r.1:Nat):Int))
 | none=>(d,((l.length:Nat):Int))
def estM {κ α:Type} (s:Int) (u:α) (l:List (κ×α)):List (κ×α):=match l[s.toNat]? with
 | some y=>l.set s.toNat (y.1,u)
 | none=>l
def menA (P:Program) (H:AStore) (T:TypeId):AVal→AVal→Option (AVal×AStore×List Prop)
 | .row L,.v k' key=>match look H L with
  | some (.mp T' k v x)=>if h:k'=k then match mapB P T with
   | some (kt,et)=>if eqTB P kt k&&Nat.beq T T' then match zeroD P et v with
    | some d=>some (.tup [.v v (entV k (h▸key) d x).1,.v (.int .i64) (entV k (h▸key) d x).2],setL H L (.mp T' k v (entM k (h▸key) d x)),[length x≤maxLen])
    | none=>none
    else none
   | none=>none
   else none
  | _=>none
 | _,_=>none
def mstA (H:AStore) (T:TypeId):AVal→AVal→AVal→Option (AStore×List Prop)
 | .row L,.v (.int .i64) s,.v v' u=>match look H L with
  | some (.mp T' k v x)=>if h:v'=v then if Nat.beq T T' then some (setL H L (.mp T' k v (estM s (h▸u) x)),[(0:Int)≤s∧s<((length x:Nat):Int)]) else none
   else none
  | _=>none
 | _,_,_=>none
section
variable {P:Program} {n0:Nat} {b:Base n0} {M:Fz} {φ:Nat→Value} {ξ:Nat→Option Nat} {H:AStore} {w:World} {ρ:AEnv}
theorem does_makeMap {T:TypeId} {β:AVal} {L:Nat} {H':AStore} {dst pos after guard ty} (hb:mkmA P n0 ρ H T L=some (β,H')):Does P b ρ H ⟨dst,.makeMap T none,ty,pos,after,guard⟩ β H' L:=by
 intro M φ ξ w a hc he
 unfold mkmA at hb
 split at hb
 ·rename_i kt et hm
  split at hb
  ·rename_i hh
   simp only [Bool.and_eq_true] at hh
   obtain ⟨⟨⟨⟨h1,h2⟩,h3⟩,h4⟩,h5⟩:=hh
   simp only [injEq,Prod.mk.injEq] at hb
   obtain ⟨rfl,rfl⟩:=hb
   have hf:(shOf P false 20 kt).fixed=true:=by simp only [eqTB,Bool.and_eq_true] at h1;exact h1.1.1.1.1.2
   refine ⟨M,upd φ L (.map (some w.heap.size)),upd ξ L (some w.heap.size),w.alloc (.map #[] 0),.map (some w.heap.size),.inl ?_,?_,he.labs (fresh_env h5 _ _),⟨Fz.le_refl _,fun l hl=>upd_ne (by omega)⟩,by rw [RelV,upd_same];exact ⟨rfl,rfl⟩⟩
   ·show (vN (Instr.makeMap T none)).run P w=_
    exact vN_run rfl
   ·exact hc.grow h5 rfl rfl rfl ((Below.refl w.heap.size w).alloc (Nat.le_refl _) (.map #[] 0)).size ((Below.refl w.heap.size w).alloc (Nat.le_refl _) (.map #[] 0)).block ⟨⟨hf,h3,h2,.inl h4⟩,w.heap.size,#[],rfl,rfl,heap_alloc_new w _,trivial⟩ (fun g hg=>by cases hg;exact Nat.le_refl _)
  ·cases hb
 ·cases hb
theorem bytes_eq {x y:ByteArray} (h:y.data.toList=x.data.toList):x=y:=ByteArray.ext (Array.ext' h.symm)
theorem bytes_beq (x:ByteArray):(x==x)=true:=by
 first
  | exact beq_self_eq_true x
  | (show (x.data==x.data)=true;exact beq_self_eq_true _)
  | (cases x;simp [BEq.beq])
theorem lit_inj {q:Lk} {u v:Value} {l:Lit} (h1:q.lit u=some l) (h2:q.lit v=some l):u=v∧∀n,Instr.sameBits n u v=true:=by
 cases q<;>cases u<;>simp only [Lk.lit,reduceCtorEq,injEq] at h1<;>cases v<;>simp only [Lk.lit,reduceCtorEq,injEq] at h2
 ·subst h1
  simp only [Lit.bool.injEq] at h2
  subst h2
  exact ⟨rfl,fun n=>by simp [Instr.sameBits]⟩
 ·split at h1
  ·split at h2
   ·rename_i e1 e2
    simp only [injEq] at h1 h2
    subst h1
    simp only [Lit.int.injEq] at h2
    obtain ⟨_,rfl⟩:=h2
    obtain ⟨rfl,_⟩:=e1
    obtain ⟨rfl,_⟩:=e2
    exact ⟨rfl,fun n=>by simp [Instr.sameBits]⟩
   ·cases h2
  ·cases h1
 ·split at h1
  ·split at h2
   ·simp only [injEq] at h1 h2
    subst h1
    simp only [Lit.string.injEq] at h2
    obtain rfl:=bytes_eq h2
    exact ⟨rfl,fun n=>by simp only [Instr.sameBits];exact bytes_beq _⟩
   ·cases h2
  ·cases h1
theorem mfits_same:∀{ks:List Lk} {us vs:List Value} {l:List Lit},fits ks us=some l→fits ks vs=some l→us=vs∧∀n,((us.zip vs).all fun (x,y)=>Instr.sameBits n x y)=true
 | [],[],[],_,_,_=>⟨rfl,fun _=>rfl⟩
 | q::ks,u::us,v::vs,l,h1,h2=>by
  simp only [fits,Option.bind_eq_some_iff,Option.map_eq_some_iff] at h1 h2
  obtain ⟨x,a1,r,a2,rfl⟩:=h1
  obtain ⟨y,b1,r',b2,e⟩:=h2
  simp only [List.cons.injEq] at e
  obtain ⟨rfl,rfl⟩:=e
  obtain ⟨rfl,c2⟩:=lit_inj a1 b1
  obtain ⟨rfl,d2⟩:=mfits_same a2 b2
  exact ⟨rfl,fun n=>by simp only [List.zip_cons_cons,List.all_cons,c2 n,d2 n];rfl⟩
 | [],_::_,_,_,h1,_=>by simp [fits] at h1
 | [],[],_::_,_,_,h2=>by simp [fits] at h2
 | _::_,[],_,_,h1,_=>by simp [fits] at h1
 | _::_,_::_,[],_,_,h2=>by simp [fits] at h2
theorem key_same {kt:TypeId} {k:Sh} (hT:eqTB P kt k=true) {c1 c2:List Value} {x y:k.ty} (hr:RepC P φ k M c1 x) (hs:RepC P φ k M c2 y) (he:k.eqb x y=true):(Instr.keyThatStays (mkV k c1) (mkV k c2)).run P w=.ok (mkV k c2) w:=by
 obtain ⟨_,g1,e1⟩:=key_forms hT hr
 obtain ⟨_,g2,e2⟩:=key_forms hT hs
 have h1:k.cmpB=true:=by simp only [eqTB,Bool.and_eq_true] at hT;exact hT.1.1.1.1.1.1
 have hxy:=(eqb_iff h1 x y).1 he
 subst hxy
 have h:=mfits_same g1 g2
 have hb:Instr.sameBits 10000 (mkV k c1) (mkV k c2)=true:=by
  rw [e1,e2] at h⊢
  simp only [Value.cells] at h
  have hcc:c1=c2:=h.1
  subst hcc
  have:=h.2 9999
  simp only [Instr.sameBits,Bool.and_eq_true,beq_self_eq_true,true_and]
  exact this
 simp [Instr.keyThatStays,hb]
theorem findM_at {α:Type} {k:Sh} {key:k.ty}:∀{ys:List (k.ty×α)} {i j:Nat} {x:α},findM k key ys i=some (j,x)→i≤j∧∃y,ys[j-i]?=some y∧k.eqb key y.1=true∧y.2=x
 | [],i,j,x,h=>by simp [findM] at h
 | y::ys,i,j,x,h=>by
  simp only [findM] at h
  split at h
  ·rename_i he
   simp only [injEq,Prod.mk.injEq] at h
   obtain ⟨rfl,rfl⟩:=h
   exact ⟨Nat.le_refl _,y,by simp,he,rfl⟩
  ·obtain ⟨h1,z,h2,h3⟩:=findM_at h
   refine ⟨by omega,z,?_,h3⟩
   rw [show j-i=(j-(i+1))+1 by omega,List.getElem?_cons_succ]
   exact h2
theorem repM_get {k v:Sh}:∀{es:List MapEntry} {ys:List (k.ty×v.ty)} {n j:Nat} {y:k.ty×v.ty},RepM P φ M k v es ys n→ys[j]?=some y→∃e,es[j]?=some e∧∃ck cv,e.key=mkV k ck∧RepC P φ k M ck y.1∧e.val=mkV v cv∧RepC P φ v M cv y.2∧e.born=n+j
 | e::es,y::ys,n,0,z,⟨h1,_⟩,hj=>by
  simp only [List.getElem?_cons_zero,injEq] at hj
  subst hj
  exact ⟨e,rfl,h1⟩
 | e::es,y::ys,n,j+1,z,⟨_,h2⟩,hj=>by
  rw [List.getElem?_cons_succ] at hj
  obtain ⟨e',g1,ck,cv,g2,g3,g4,g5,g6⟩:=repM_get h2 hj
  exact ⟨e',by rw [List.getElem?_cons_succ];exact g1,ck,cv,g2,g3,g4,g5,by omega⟩
 | [],[],_,_,_,_,hj=>by simp at hj
 | [],_::_,_,_,_,h,_=>h.elim
 | _::_,[],_,_,_,h,_=>h.elim
theorem repM_set {k v:Sh} {e':MapEntry} {y':k.ty×v.ty}:∀{es:List MapEntry} {ys:List (k.ty×v.ty)} {n j:Nat},RepM P φ M k v es ys n→(∃ck cv,e'.key=mkV k ck∧RepC P φ k M ck y'.1∧e'.val=mkV v cv∧RepC P φ v M cv y'.2∧e'.born=n+j)→RepM P φ M k v (es.set j e') (ys.set j y') n
 | [],[],_,_,_,_=>trivial
 | e::es,y::ys,n,0,⟨_,h2⟩,h=>⟨h,h2⟩
 | e::es,y::ys,n,j+1,⟨h1,h2⟩,⟨ck,cv,g2,g3,g4,g5,g6⟩=>⟨h1,repM_set h2 ⟨ck,cv,g2,g3,g4,g5,by omega⟩⟩
 | [],_::_,_,_,h,_=>h.elim
 | _::_,[],_,_,h,_=>h.elim
theorem repM_push {k v:Sh} {e':MapEntry} {y':k.ty×v.ty}:∀{es:List MapEntry} {ys:List (k.ty×v.ty)} {n:Nat},RepM P φ M k v es ys n→(∃ck cv,e'.key=mkV k ck∧RepC P φ k M ck y'.1∧e'.val=mkV v cv∧RepC P φ v M cv y'.2∧e'.born=n+es.length)→RepM P φ M k v (es++[e']) (ys++[y']) n
 | [],[],_,_,h=>⟨h,trivial⟩
 | e::es,y::ys,n,⟨h1,h2⟩,⟨ck,cv,g2,g3,g4,g5,g6⟩=>⟨h1,repM_push h2 ⟨ck,cv,g2,g3,g4,g5,by rw [g6,List.length_cons];omega⟩⟩
 | [],_::_,_,h,_=>h.elim
 | _::_,[],_,h,_=>h.elim
theorem repM_len {k v:Sh}:∀{es:List MapEntry} {ys:List (k.ty×v.ty)} {n:Nat},RepM P φ M k v es ys n→es.length=ys.length
 | [],[],_,_=>rfl
 | _::_,_::_,_,⟨_,h⟩=>by simp [repM_len h]
 | [],_::_,_,h=>h.elim
 | _::_,[],_,h=>h.elim
theorem modify_set {es:Array MapEntry} {j:Nat} {e:MapEntry} {f:MapEntry→MapEntry} (h:es.toList[j]?=some e):(es.modify j f).toList=es.toList.set j (f e):=by
 apply List.ext_getElem?
 intro i
 rw [List.getElem?_set,Array.getElem?_toList,Array.getElem?_modify]
 split
 ·rename_i e'
  subst e'
  rw [← Array.getElem?_toList,h]
  have:=(List.getElem?_eq_some_iff.1 h).1
  rw [Array.length_toList] at this
  simp [this]
 ·simp
theorem mapUpd_at {T ty:TypeId} {m q x:Operand} {N:Nat} {dst pos after guard} {M:Fz} {φ:Nat→Value} {ξ:Nat→Option Nat} {w:World} {a:Act} {L:Nat} {T' kt et:TypeId} {k' v':Sh} {key:k'.ty} {u:v'.ty} {xs:List (k'.ty×v'.ty)} {ck cx:List Value}
  (hc:Core P b M φ ξ H w) (he:EnvR P M φ ρ a.tmps) (hl:look H L=some (.mp T' k' v' xs)) (hmb:mapB P T=some (kt,et)) (hT:eqTB P kt k'=true) (hu1:a.eval m=φ L) (hv1:a.eval q=mkV k' ck) (hr:RepC P φ k' M ck key) (hw1:a.eval x=mkV v' cx) (hrx:RepC P φ v' M cx u) :
  ∃M' φ' ξ' w' vv,((execOp a.eval ⟨dst,.mapUpdate T m q x,ty,pos,after,guard⟩).run P w=.ok (.value vv) w'∨(vv=undef∧(execOp a.eval ⟨dst,.mapUpdate T m q x,ty,pos,after,guard⟩).run P w=.ok .skip w'))∧Core P b M' φ' ξ' (setL H L (.mp T' k' v' (updM k' key u xs))) w'∧EnvR P M' φ' ρ a.tmps∧Later N M M' φ φ'∧RelV P M' φ' .undef vv:=by
 obtain ⟨H1,H2,rfl,hset,_⟩:=look_split hl
 rw [hset]
 have hmem:(L,AItem.mp T' k' v' xs)∈H1++(L,AItem.mp T' k' v' xs)::H2:=by simp
 obtain ⟨⟨p1,p2,p3,p4⟩,g,es,g1,g2,g3,g4⟩:=hc.items L _ hmem
 obtain ⟨r,f1,f2⟩:=run_findK (w:=w) hT hr g4
 have hck:=run_checkK hT hr false w
 have hobj:(getObj g).run P w=.ok (.map es es.size) w:=by simp [getObj,Sem.run,g3]
 have fin:∀(es':Array MapEntry),es'.size=es.size∨es'.size=es.size+1→RepM P φ M k' v' es'.toList (updM k' key u xs) 0→(Instr.mapUpdate T (φ L) (mkV k' ck) (mkV v' cx)).run P w=.ok () { w with heap:=w.heap.setIfInBounds g (.map es' es'.size) } →
   ∃M' φ' ξ' w' vv,((execOp a.eval ⟨dst,.mapUpdate T m q x,ty,pos,after,guard⟩).run P w=.ok (.value vv) w'∨(vv=undef∧(execOp a.eval ⟨dst,.mapUpdate T m q x,ty,pos,after,guard⟩).run P w=.ok .skip w'))∧Core P b M' φ' ξ' (H1++(L,AItem.mp T' k' v' (updM k' key u xs))::H2) w'∧EnvR P M' φ' ρ a.tmps∧Later N M M' φ φ'∧RelV P M' φ' .undef vv:=by
  intro es' _ hrep hrun
  refine ⟨M,φ,ξ,{ w with heap:=w.heap.setIfInBounds g (.map es' es'.size) },undef,.inr ⟨rfl,?_⟩,hc.write g2 rfl rfl rfl (by simp) (fun k hk=>(Go.MapKept.heap_set g3).2 k hk) ⟨⟨p1,p2,p3,p4⟩,g,es',g1,g2,(Go.MapKept.heap_set g3).1,hrep⟩,he,⟨Fz.le_refl _,fun _ _=>rfl⟩,rfl⟩
  have e3:a.eval m=φ L:=hu1
  have e4:a.eval q=mkV k' ck:=hv1
  have e5:a.eval x=mkV v' cx:=hw1
  simp only [execOp,e3,e4,e5,hrun,Sem.run_bind,Sem.run_pure,Result.andThen_ok]
 rcases f2 with ⟨rfl,f3⟩|⟨j,uu,xx,rfl,f3,cv,f4,f5⟩
 ·refine fin (es.push { key:=mkV k' ck,val:=mkV v' cx,born:=es.size }) (.inr (by simp)) ?_ ?_
  ·rw [Array.toList_push,updM,f3]
   exact repM_push g4 ⟨ck,cx,rfl,hr,rfl,hrx,by simp⟩
  ·rw [g1]
   have:=Go.MapKept.run_setObj_map (P:=P) (.map (es.push { key:=mkV k' ck,val:=mkV v' cx,born:=es.size }) (es.size+1)) g3
   simp [Instr.mapUpdate,run_underlying (mapB_ok hmb),hobj,hck,f1,this]
 ·obtain ⟨_,y,y1,y2,y3⟩:=findM_at f3
  rw [Nat.sub_zero] at y1
  obtain ⟨e,z1,ck0,cv0,z2,z3,z4,z5,z6⟩:=repM_get g4 y1
  have hks:=key_same (w:=w) hT z3 hr (by
   have h1:k'.cmpB=true:=by simp only [eqTB,Bool.and_eq_true] at hT;exact hT.1.1.1.1.1.1
   rw [eqb_iff h1] at y2⊢
   exact y2.symm)
  refine fin (es.modify j fun e=>{ e with key:=mkV k' ck,val:=mkV v' cx }) (.inl (by simp)) ?_ ?_
  ·rw [modify_set z1,updM,f3]
   exact repM_set g4 ⟨ck,cx,rfl,hr,rfl,hrx,z6⟩
  ·rw [g1]
   have hz:es[j]?=some e:=by rw [← Array.getElem?_toList];exact z1
   have:=Go.MapKept.run_setObj_map (P:=P) (.map (es.modify j fun e=>{ e with key:=mkV k' ck,val:=mkV v' cx }) es.size) g3
   simp [Instr.mapUpdate,run_underlying (mapB_ok hmb),hobj,hck,f1,hz,z2,hks,this]
theorem does_mapUpdate {T ty:TypeId} {m q x:Operand} {α κ γ:AVal} {N:Nat} {H':AStore} {vt:TypeId} {dst pos after guard} (hm:evA P ρ 0 m=some α) (hq:evA P ρ 0 q=some κ) (hx:evA P ρ vt x=some γ) (hb:mupA P H T α κ γ=some H') :
  Does P b ρ H ⟨dst,.mapUpdate T m q x,ty,pos,after,guard⟩ .undef H' N:=by
 intro M φ ξ w a hc he
 have hu:=evA_ok he hm
 have hv:=evA_ok he hq
 have hw:=evA_ok he hx
 unfold mupA at hb
 split at hb
 ·rename_i L k' key v' u
  split at hb
  ·rename_i T' k v xs hl
   split at hb
   ·rename_i e1
    split at hb
    ·rename_i e2
     split at hb
     ·rename_i kt et hmb
      split at hb
      ·rename_i hh
       subst e1 e2
       simp only [Bool.and_eq_true] at hh
       obtain ⟨hT,hTT⟩:=hh
       simp only [injEq] at hb
       subst hb
       obtain ⟨hu1,_⟩:=hu
       obtain ⟨_,ck,hv1,hr⟩:=hv
       obtain ⟨_,cx,hw1,hrx⟩:=hw
       exact mapUpd_at hc he hl hmb hT hu1 hv1 hr hw1 hrx
      ·cases hb
     ·cases hb
    ·cases hb
   ·cases hb
  ·cases hb
 ·cases hb
theorem i64_has {n:Nat} (h:n≤maxLen):IntKind.i64.has ((n:Nat):Int):=by
 unfold maxLen at h
 simp [IntKind.has,IntKind.min,IntKind.max,IntKind.signed,IntKind.bits]
 omega
theorem does_mapEntry {T ty:TypeId} {m q:Operand} {α κ β:AVal} {N:Nat} {H':AStore} {C:List Prop} {dst pos after guard} (hm:evA P ρ 0 m=some α) (hq:evA P ρ 0 q=some κ) (hb:menA P H T α κ=some (β,H',C)) (hC:AllP C) :
  Does P b ρ H ⟨dst,.mapEntry T m q,ty,pos,after,guard⟩ β H' N:=by
 intro M φ ξ w a hc he
 have hu:=evA_ok he hm
 have hv:=evA_ok he hq
 unfold menA at hb
 split at hb
 ·rename_i L k' key
  split at hb
  ·rename_i T' k v xs hl
   split at hb
   ·rename_i e1
    split at hb
    ·rename_i kt et hmb
     split at hb
     ·rename_i hh
      split at hb
      ·rename_i d hd
       subst e1
       simp only [Bool.and_eq_true] at hh
       obtain ⟨hT,hTT⟩:=hh
       simp only [injEq,Prod.mk.injEq] at hb
       obtain ⟨rfl,rfl,rfl⟩:=hb
       have hlen:xs.length≤maxLen:=hC.1
       obtain ⟨hu1,_⟩:=hu
       obtain ⟨_,ck,hv1,hr⟩:=hv
       obtain ⟨H1,H2,rfl,hset,_⟩:=look_split hl
       rw [hset]
       have hmem:(L,AItem.mp T' k' v xs)∈H1++(L,AItem.mp T' k' v xs)::H2:=by simp
       obtain ⟨⟨p1,p2,p3,p4⟩,g,es,g1,g2,g3,g4⟩:=hc.items L _ hmem
       have hel:=repM_len g4
       rw [Array.length_toList] at hel
       obtain ⟨r,f1,f2⟩:=run_findK (w:=w) hT hr g4
       obtain ⟨z,z1,cz,z2,z3⟩:=zeroD_ok (P:=P) (φ:=φ) (M:=M) hd w
       have hck:=run_checkK hT hr false w
       have hobj:(getObj g).run P w=.ok (.map es es.size) w:=by simp [getObj,Sem.run,g3]
       have fin:∀(es':Array MapEntry) (vv:Value) (n:Nat),RepM P φ M k' v es'.toList (entM k' key d xs) 0→(Instr.mapEntry T (φ L) (mkV k' ck)).run P w=.ok (.tuple #[vv,goInt n]) { w with heap:=w.heap.setIfInBounds g (.map es' es'.size) }→RelV P M φ (.v v (entV k' key d xs).1) vv→(entV k' key d xs).2=((n:Nat):Int)→n≤maxLen →
         ∃M' φ' ξ' w' vv,((execOp a.eval ⟨dst,.mapEntry T m q,ty,pos,after,guard⟩).run P w=.ok (.value vv) w'∨(vv=undef∧(execOp a.eval ⟨dst,.mapEntry T m q,ty,pos,after,guard⟩).run P w=.ok .skip w'))∧Core P b M' φ' ξ' (H1++(L,AItem.mp T' k' v (entM k' key d xs))::H2) w'∧EnvR P M' φ' ρ a.tmps∧Later N M M' φ φ'∧RelV P M' φ' (.tup [.v v (entV k' key d xs).1,.v (.int .i64) (entV k' key d xs).2]) vv:=by
        intro es' vv n hrep hrun hvv hn hn2
        refine ⟨M,φ,ξ,{ w with heap:=w.heap.setIfInBounds g (.map es' es'.size) },.tuple #[vv,goInt n],.inl ?_,hc.write g2 rfl rfl rfl (by simp) (fun k hk=>(Go.MapKept.heap_set g3).2 k hk) ⟨⟨p1,p2,p3,p4⟩,g,es',g1,g2,(Go.MapKept.heap_set g3).1,hrep⟩,he,⟨Fz.le_refl _,fun _ _=>rfl⟩,[vv,goInt n],rfl,vv,_,rfl,hvv,_,_,rfl,⟨rfl,[goInt n],rfl,by rw [hn];rfl,by rw [hn];exact i64_has hn2⟩,rfl⟩
        have e3:a.eval m=φ L:=hu1
        have e4:a.eval q=mkV k' ck:=hv1
        show (vN (Instr.mapEntry T (a.eval m) (a.eval q))).run P w=_
        rw [e3,e4]
        exact vN_run hrun
       rcases f2 with ⟨rfl,f3⟩|⟨j,uu,xx,rfl,f3,cv,f4,f5⟩
       ·refine fin (es.push { key:=mkV k' ck,val:=z,born:=es.size }) z es.size ?_ ?_ ?_ ?_ (by omega)
        ·rw [Array.toList_push,entM,f3]
         exact repM_push g4 ⟨ck,cz,rfl,hr,z2,z3,by simp⟩
        ·rw [g1]
         have:=Go.MapKept.run_setObj_map (P:=P) (.map (es.push { key:=mkV k' ck,val:=z,born:=es.size }) (es.size+1)) g3
         simp [Instr.mapEntry,run_underlying (mapB_ok hmb),hobj,hck,f1,z1,this]
        ·rw [entV,f3];exact ⟨p2,cz,z2,z3⟩
        ·rw [entV,f3,hel]
       ·obtain ⟨_,y,y1,y2,y3⟩:=findM_at f3
        rw [Nat.sub_zero] at y1
        obtain ⟨e,q1,ck0,cv0,q2,q3,q4,q5,q6⟩:=repM_get g4 y1
        have h1:k'.cmpB=true:=by simp only [eqTB,Bool.and_eq_true] at hT;exact hT.1.1.1.1.1.1
        have hky:key=y.1:=(eqb_iff h1 _ _).1 y2
        have hks:=key_same (w:=w) hT q3 hr (by rw [eqb_iff h1];exact hky.symm)
        have hj:=(List.getElem?_eq_some_iff.1 y1).1
        refine fin (es.modify j fun e=>{ e with key:=mkV k' ck }) uu j ?_ ?_ ?_ ?_ (by omega)
        ·rw [modify_set q1,entM,f3]
         have:=repM_set (j:=j) (y':=y) (e':={ e with key:=mkV k' ck }) g4 ⟨ck,cv0,rfl,hky▸hr,q4,q5,q6⟩
         have hself:xs.set j y=xs:=by
          apply List.ext_getElem?
          intro i
          rw [List.getElem?_set]
          split
          ·rename_i e';subst e';rw [y1]<;>simp [hj]
          ·rfl
         rw [hself] at this
         exact this
        ·rw [g1]
         have hz:es[j]?=some e:=by rw [← Array.getElem?_toList];exact q1
         have:=Go.MapKept.run_setObj_map (P:=P) (.map (es.modify j fun e=>{ e with key:=mkV k' ck }) es.size) g3
         have hb:e.born=j:=by omega
         simp [Instr.mapEntry,run_underlying (mapB_ok hmb),hobj,hck,f1,hz,q2,hks,this,hb]
        ·rw [entV,f3];exact ⟨p2,cv,f4,f5⟩
        ·rw [entV,f3]
      ·cases hb
     ·cases hb
    ·cases hb
   ·cases hb
  ·cases hb
 ·cases hb
theorem findIdx_born {P:Program} {φ:Nat→Value} {M:Fz} {k v:Sh} {p:Nat→Bool} {j:Nat} (hp:∀i,p i=true↔i=j):∀{es:List MapEntry} {ys:List (k.ty×v.ty)} {n:Nat},RepM P φ M k v es ys n→n≤j→j<n+es.length→es.findIdx? (fun e=>p e.born)=some (j-n)
 | [],_,n,_,h1,h2=>by simp at h2;omega
 | e::es,y::ys,n,⟨⟨_,_,_,_,_,_,hb⟩,h⟩,h1,h2=>by
  rw [List.findIdx?_cons,hb]
  by_cases e0:n=j
  ·subst e0
   simp [(hp n).2 rfl]
  ·have:p n=false:=by
    rw [Bool.eq_false_iff]
    intro h
    exact e0 ((hp n).1 h)
   rw [this,findIdx_born hp h (by omega) (by rw [List.length_cons] at h2;omega)]
   simp
   omega
 | _::_,[],_,h,_,_=>h.elim
theorem does_entryStore {T ty:TypeId} {m q x:Operand} {α κ γ:AVal} {N:Nat} {H':AStore} {C:List Prop} {vt:TypeId} {dst pos after guard} (hm:evA P ρ 0 m=some α) (hq:evA P ρ 0 q=some κ) (hx:evA P ρ vt x=some γ) (hb:mstA H T α κ γ=some (H',C)) (hC:AllP C) :
  Does P b ρ H ⟨dst,.entryStore T m q x,ty,pos,after,guard⟩ .undef H' N:=by
 intro M φ ξ w a hc he
 have hu:=evA_ok he hm
 have hv:=evA_ok he hq
 have hw:=evA_ok he hx
 unfold mstA at hb
 split at hb
 ·rename_i L s v' u
  obtain ⟨s',hs'⟩:∃s':Int,s'=s:=⟨s,rfl⟩
  subst hs'
  split at hb
  ·rename_i T' k v xs hl
   split at hb
   ·rename_i e1
    split at hb
    ·subst e1
     simp only [injEq,Prod.mk.injEq] at hb
     obtain ⟨rfl,rfl⟩:=hb
     obtain ⟨⟨s1,s2⟩,_⟩:=hC
     obtain ⟨hu1,_⟩:=hu
     obtain ⟨_,cs,hv1,rfl,hk⟩:=hv
     obtain ⟨_,cx,hw1,hrx⟩:=hw
     obtain ⟨H1,H2,rfl,hset,_⟩:=look_split hl
     rw [hset]
     have hmem:(L,AItem.mp T' k v' xs)∈H1++(L,AItem.mp T' k v' xs)::H2:=by simp
     obtain ⟨⟨p1,p2,p3,p4⟩,g,es,g1,g2,g3,g4⟩:=hc.items L _ hmem
     have hel:=repM_len g4
     rw [Array.length_toList] at hel
     have s1':(0:Int)≤s':=s1
     have s2':s'<((xs.length:Nat):Int):=s2
     have hj:s'.toNat<xs.length:=by clear s1 s2;omega
     have hsj:s'=((s'.toNat:Nat):Int):=by clear s1 s2;omega
     obtain ⟨y,hy⟩:∃y,xs[s'.toNat]?=some y:=⟨xs[s'.toNat],List.getElem?_eq_getElem hj⟩
     obtain ⟨e,q1,ck0,cv0,q2,q3,q4,q5,q6⟩:=repM_get g4 hy
     have hobj:(getObj g).run P w=.ok (.map es es.size) w:=by simp [getObj,Sem.run,g3]
     have hidx:es.findIdx? (fun e=>(e.born:Int)==s')=some s'.toNat:=by
      rw [show es=es.toList.toArray by simp,List.findIdx?_toArray]
      have:=findIdx_born (p:=fun i=>((i:Nat):Int)==s') (j:=s'.toNat) (fun i=>by simp;omega) g4 (Nat.zero_le _) (by rw [Array.length_toList];omega)
      simpa using this
     refine ⟨M,φ,ξ,{ w with heap:=w.heap.setIfInBounds g (.map (es.modify s'.toNat fun e=>{ e with val:=mkV v' cx }) (es.modify s'.toNat fun e=>{ e with val:=mkV v' cx }).size) },undef,.inr ⟨rfl,?_⟩,hc.write g2 rfl rfl rfl (by simp) (fun k hk=>(Go.MapKept.heap_set g3).2 k hk) ⟨⟨p1,p2,p3,p4⟩,g,_,g1,g2,(Go.MapKept.heap_set g3).1,?_⟩,he,⟨Fz.le_refl _,fun _ _=>rfl⟩,rfl⟩
     ·have e3:a.eval m=.map (some g):=hu1.trans g1
      have e4:a.eval q=.int .i64 s':=hv1
      have e5:a.eval x=mkV v' cx:=hw1
      have:=Go.MapKept.run_setObj_map (P:=P) (.map (es.modify s'.toNat fun e=>{ e with val:=mkV v' cx }) es.size) g3
      simp [execOp,e3,e4,e5,Instr.entryStore,hobj,asInt,asIntOf,hidx,this]
     ·rw [modify_set q1,estM,hy]
      exact repM_set g4 ⟨ck0,cx,q2,q3,rfl,hrx,q6⟩
    ·cases hb
   ·cases hb
  ·cases hb
 ·cases hb
end
def zeroNil (P:Program) (et:TypeId):Bool:=match P.info? et with
 | some i=>match i.zero with
  | some (.pointer none)=>true
  | _=>false
 | none=>false
def lkR (P:Program) (H:AStore) (T:TypeId):AVal→AVal→AVal→Option (List Prop)
 | .row L,.v k' key,β=>match look H L with
  | some (.mp _ k .ref x)=>if h:k'=k then match mapB P T with
   | some (kt,et)=>if eqTB P kt k&&zeroNil P et then match β with
    | .nilp=>some [findM k (h▸key) x 0=none]
    | .ptr N [] 0=>match look H N with
     | some (.var _ _ _)=>some [∃j,findM k (h▸key) x 0=some (j,N)]
     | _=>none
    | _=>none
    else none
   | none=>none
   else none
  | _=>none
 | _,_,_=>none
def mupR (P:Program) (H:AStore) (T:TypeId):AVal→AVal→AVal→Option AStore
 | .row L,.v k' key,.ptr N [] 0=>match look H L,look H N with
  | some (.mp T' k .ref x),some (.var _ _ _)=>if h:k'=k then match mapB P T with
   | some (kt,_)=>if eqTB P kt k then some (setL H L (.mp T' k .ref (updM (α:=Nat) k (h▸key) N x))) else none
   | none=>none
   else none
  | _,_=>none
 | _,_,_=>none
section
variable {P:Program} {n0:Nat} {b:Base n0} {M:Fz} {φ:Nat→Value} {ξ:Nat→Option Nat} {H:AStore} {w:World} {ρ:AEnv}
theorem var_ptr (hc:Core P b M φ ξ H w) {N:Nat} {T:TypeId} {s:Sh} {x:s.ty} (h:look H N=some (.var T s x)):∃g,φ N=.pointer (some ⟨g,0,none⟩)∧RelV P M φ (.ptr N [] 0) (φ N):=by
 obtain ⟨_,g,c,h1,_⟩:=hc.items N _ (look_mem h)
 exact ⟨g,h1,g,by rw [h1];rfl,h1⟩
theorem lkR_ok (hc:Core P b M φ ξ H w) {T:TypeId} {α κ β:AVal} {C:List Prop} {u q:Value} (h:lkR P H T α κ β=some C) (hC:AllP C) (hu:RelV P M φ α u) (hq:RelV P M φ κ q):∃r,(Instr.lookup T u q false).run P w=.ok r w∧RelV P M φ β r:=by
 unfold lkR at h
 split at h
 ·rename_i β0 L k' key
  split at h
  ·rename_i T' k x hl
   split at h
   ·rename_i hk
    subst hk
    split at h
    ·rename_i kt et hm
     split at h
     ·rename_i hh
      simp only [Bool.and_eq_true] at hh
      obtain ⟨hT,hz⟩:=hh
      obtain ⟨rfl,_⟩:=hu
      obtain ⟨_,c,rfl,hr⟩:=hq
      obtain ⟨_,g,es,g1,g2,g3,g4⟩:=hc.items L _ (look_mem hl)
      obtain ⟨r,f1,f2⟩:=run_findK (w:=w) hT hr g4
      have hck:=run_checkK hT hr es.isEmpty w
      have hobj:(getObj g).run P w=.ok (.map es es.size) w:=by simp [getObj,Sem.run,g3]
      have hzv:(zeroValue et).run P w=.ok (.pointer none) w:=by
       unfold zeroNil at hz
       split at hz
       ·rename_i i hi
        split at hz
        ·rename_i hzz
         simp [zeroValue,typeInfo,hi,hzz]
        ·cases hz
       ·cases hz
      split at h
      ·simp only [injEq] at h
       subst h
       have h0:=hC.1
       rcases f2 with ⟨rfl,f3⟩|⟨j,uu,xx,rfl,f3,_⟩
       ·refine ⟨.pointer none,?_,rfl⟩
        rw [g1]
        simp [Instr.lookup,run_underlying (mapB_ok hm),hobj,hck,f1,hzv]
       ·rw [h0] at f3;cases f3
      ·rename_i N
       split at h
       ·rename_i T2 s2 x2 hN
        simp only [injEq] at h
        subst h
        obtain ⟨⟨j,h0⟩,_⟩:=hC
        rcases f2 with ⟨rfl,f3⟩|⟨j',uu,xx,rfl,f3,cv,f4,f5⟩
        ·rw [h0] at f3;cases f3
        ·rw [h0] at f3
         simp only [injEq,Prod.mk.injEq] at f3
         obtain ⟨rfl,rfl⟩:=f3
         obtain ⟨rfl,_⟩:=f5
         obtain ⟨gN,p1,p2⟩:=var_ptr hc hN
         refine ⟨φ N,?_,p2⟩
         have e:uu=φ N:=f4
         rw [g1]
         simp [Instr.lookup,run_underlying (mapB_ok hm),hobj,hck,f1,e]
       ·cases h
      ·cases h
     ·cases h
    ·cases h
   ·cases h
  ·cases h
 ·cases h
theorem does_mapUpdR {T ty:TypeId} {m q x:Operand} {α κ γ:AVal} {N:Nat} {H':AStore} {vt:TypeId} {dst pos after guard} (hm:evA P ρ 0 m=some α) (hq:evA P ρ 0 q=some κ) (hx:evA P ρ vt x=some γ) (hb:mupR P H T α κ γ=some H') :
  Does P b ρ H ⟨dst,.mapUpdate T m q x,ty,pos,after,guard⟩ .undef H' N:=by
 intro M φ ξ w a hc he
 have hu:=evA_ok he hm
 have hv:=evA_ok he hq
 have hw:=evA_ok he hx
 unfold mupR at hb
 split at hb
 ·rename_i L k' key K
  split at hb
  ·rename_i T' k xs T2 s2 x2 hl hN
   split at hb
   ·rename_i e1
    subst e1
    split at hb
    ·rename_i kt et hmb
     split at hb
     ·rename_i hT
      simp only [injEq] at hb
      subst hb
      obtain ⟨hu1,_⟩:=hu
      obtain ⟨_,ck,hv1,hr⟩:=hv
      obtain ⟨g,p1,g',p2,p3⟩:=var_ptr hc hN
      obtain ⟨g2,q1,q2⟩:=hw
      rw [p1] at q1
      obtain rfl:g=g2:=by simpa [blkOf] using q1
      exact mapUpd_at (v':=.ref) (u:=K) (cx:=[φ K]) hc he hl hmb hT hu1 hv1 hr (by rw [q2];exact p1.symm) ⟨rfl,by rw [p1];rfl⟩
     ·cases hb
    ·cases hb
   ·cases hb
  ·cases hb
 ·cases hb
end
end Go.Proofs.YtglfdihomfhmmaaGreatDoor
