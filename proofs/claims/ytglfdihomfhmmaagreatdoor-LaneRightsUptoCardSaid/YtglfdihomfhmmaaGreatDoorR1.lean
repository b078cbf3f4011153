/- Laws of my own that the statement leans on; part R1. -/
import Derived.Test.YtglfdihomfhmmaaGreatDoorProg
import Derived.WalkKit
import Derived.Lib.LaidTab
import Derived.Lib.ItoaMem
import Derived.ProofKit
import Derived.OpenShut
import Derived.Laws.StructEq
import Derived.DeepKeys
import Derived.Below
import Derived.Calls
import Derived.Deep.QuietTactic
import Derived.IntWalk
import Derived.Laws.BitsAllLaws
import Derived.Laws.Tables
import Derived.Great.BuildSlice
import Derived.DeepKeys3
import Derived.WideKeyRuns
set_option linter.unusedVariables false
set_option linter.unusedSimpArgs false
open List (length replicate getD drop take)
open Option.some (inj injEq)
open Int (toNat)
open Go.IntKind (wrap)
namespace Go.Proofs.YtglfdihomfhmmaaGreatDoor
def bs (l:List UInt8):ByteArray:=⟨l.toArray⟩
theorem bs_data (s:ByteArray):bs s.data.toList=s:=by obtain ⟨⟨l⟩⟩:=s;rfl
theorem bs_size (l:List UInt8):(bs l).size=l.length:=rfl
theorem bs_append (l m:List UInt8):bs l++bs m=bs (l++m):=by
 apply ByteArray.ext
 simp [bs]
theorem bs_extract (l:List UInt8) (a b:Nat):(bs l).extract a b=bs ((l.drop a).take (b-a)):=by
 apply ByteArray.ext
 apply Array.toList_inj.1
 simp [bs,List.extract_eq_take_drop]
end Go.Proofs.YtglfdihomfhmmaaGreatDoor
namespace Go.Proofs.YtglfdihomfhmmaaGreatDoor
open Go.RowKit
noncomputable def pow10Cells:Array Value:=(Lib.pow10Tab.map fun n=>Value.int .u64 n).toArray
noncomputable def GLs : List (Nat × Array Value) := [((Tryz.prog.globalNamed "internal/strconv.uint64pow10").getD 0, pow10Cells)]
noncomputable def GLi : List Nat := [(Tryz.prog.globalNamed "internal/bytealg.MaxLen").getD 0]
noncomputable def GLe : List Nat := [(Tryz.prog.globalNamed "strconv.ErrSyntax").getD 0, (Tryz.prog.globalNamed "strconv.ErrRange").getD 0]
end Go.Proofs.YtglfdihomfhmmaaGreatDoor
namespace Go.Proofs.YtglfdihomfhmmaaGreatDoor
open Go.ChangeShapes Go.WideShapes Go.ChangeAt Go.RowKit
inductive Lk where
 | b
 | i (k:IntKind)
 | s
 deriving DecidableEq,Inhabited
def Lk.lit:Lk→Value→Option Lit
 | .b,.bool x=>some (.bool x)
 | .i k,.int k' n=>if k'=k∧(Lit.int k n).wf=true then some (.int k n) else none
 | .s,.string x=>if x.size≤maxLen then some (.string x.data.toList) else none
 | _,_=>none
def fits:List Lk→List Value→Option (List Lit)
 | [],[]=>some []
 | k::ks,v::vs=>(k.lit v).bind fun x=>(fits ks vs).map fun r=>x::r
 | _,_=>none
theorem fits_length {ks:List Lk} {vs:List Value} {ls:List Lit} (h:fits ks vs=some ls):vs.length=ks.length:=by
 induction ks generalizing vs ls with
 | nil=>cases vs<;>simp_all [fits]
 | cons k ks ih =>
  cases vs with
  | nil=>simp [fits] at h
  | cons v vs =>
   simp only [fits,Option.bind_eq_some_iff,Option.map_eq_some_iff] at h
   obtain ⟨x,_,r,h2,_⟩:=h
   simp [ih h2]
theorem fits_append {ks js:List Lk} {vs us:List Value} {ls ms:List Lit} (h:fits ks vs=some ls) (g:fits js us=some ms):fits (ks++js) (vs++us)=some (ls++ms):=by
 induction ks generalizing vs ls with
 | nil=>cases vs<;>simp_all [fits]
 | cons k ks ih =>
  cases vs with
  | nil=>simp [fits] at h
  | cons v vs =>
   simp only [fits,Option.bind_eq_some_iff,Option.map_eq_some_iff] at h
   obtain ⟨x,h1,r,h2,rfl⟩:=h
   simp [fits,h1,ih h2]
theorem fits_split {ks js:List Lk} {vs:List Value} {ls:List Lit} (h:fits (ks++js) vs=some ls) :
  ∃l1 l2,ls=l1++l2∧fits ks (vs.take ks.length)=some l1∧fits js (vs.drop ks.length)=some l2:=by
 induction ks generalizing vs ls with
 | nil=>exact ⟨[],ls,rfl,rfl,by simpa using h⟩
 | cons k ks ih =>
  cases vs with
  | nil=>simp [fits] at h
  | cons v vs =>
   rw [List.cons_append] at h
   simp only [fits,Option.bind_eq_some_iff,Option.map_eq_some_iff] at h
   obtain ⟨x,h1,r,h2,rfl⟩:=h
   obtain ⟨l1,l2,rfl,g1,g2⟩:=ih h2
   exact ⟨x::l1,l2,rfl,by simp [fits,h1,g1],by simpa using g2⟩
def flatGo (P:Program) (F:TypeId→Option (List Lk)) (off:Nat):List Field→Option (List Lk)
 | []=>some []
 | f::fs=>(F f.type).bind fun l=>if f.offset=off∧P.cellsOf f.type=l.length then (flatGo P F (off+l.length) fs).map fun r=>l++r else none
def flat (P:Program):Nat→TypeId→Option (List Lk)
 | 0,_=>none
 | d+1,t =>
  match P.underlying t with
  | some .bool=>if P.cellsOf t=1 then some [.b] else none
  | some (.int k)=>if P.cellsOf t=1 then some [.i k] else none
  | some .string=>if P.cellsOf t=1 then some [.s] else none
  | some (.array n e)=>(flat P d e).bind fun l=>if P.cellsOf e=l.length∧P.cellsOf t=n*l.length then some ((replicate n l).flatten) else none
  | some (.struct fs) => if fs.all (·.name != "_") then (flatGo P (flat P d) 0 fs.toList).bind fun l => if P.cellsOf t = l.length then some l else none else none
  | _=>none
theorem flat_cells {P:Program} {d:Nat} {t:TypeId} {ks:List Lk} (h:flat P d t=some ks):P.cellsOf t=ks.length:=by
 cases d with
 | zero=>simp [flat] at h
 | succ d =>
  rw [flat] at h
  split at h
  ·split at h<;>simp_all
   subst h;rfl
  ·split at h<;>simp_all
   subst h;rfl
  ·split at h<;>simp_all
   subst h;rfl
  ·simp only [Option.bind_eq_some_iff] at h
   obtain ⟨l,_,h⟩:=h
   split at h<;>simp_all
   subst h;simp
  ·split at h
   ·simp only [Option.bind_eq_some_iff] at h
    obtain ⟨l,_,h⟩:=h
    split at h<;>simp_all
   ·cases h
  ·cases h
theorem fits_rows {l:List Lk} {n:Nat} {vs:List Value} {ls:List Lit} (h:fits (replicate n l).flatten vs=some ls) :
  ∃rs:List (List Lit),rs.length=n∧ls=rs.flatten∧∀i,i<n→∃r,rs[i]?=some r∧fits l ((vs.drop (i*l.length)).take l.length)=some r:=by
 induction n generalizing vs ls with
 | zero =>
  refine ⟨[],rfl,?_,fun i hi=>by omega⟩
  cases vs<;>simp_all [fits]
 | succ n ih =>
  rw [List.replicate_succ,List.flatten_cons] at h
  obtain ⟨l1,l2,rfl,g1,g2⟩:=fits_split h
  obtain ⟨rs,hl,rfl,hr⟩:=ih g2
  refine ⟨l1::rs,by simp [hl],by simp,fun i hi=>?_⟩
  cases i with
  | zero=>exact ⟨l1,rfl,by simpa using g1⟩
  | succ i =>
   obtain ⟨r,h1,h2⟩:=hr i (by omega)
   refine ⟨r,by simpa using h1,?_⟩
   rw [List.drop_drop] at h2
   rw [show (i+1)*l.length=l.length+i*l.length by rw [Nat.succ_mul];omega]
   exact h2
theorem mapM_range_of {β:Type} (f:Nat→Option β) (n:Nat) (rs:List β) (hl:rs.length=n) (h:∀i,i<n→f i=rs[i]?):(List.range n).mapM f=some rs:=by
 induction n generalizing rs f with
 | zero=>cases rs<;>simp_all
 | succ n ih =>
  cases rs with
  | nil=>simp at hl
  | cons r rs =>
   rw [List.range_succ_eq_map,List.mapM_cons,h 0 (by omega)]
   have:=ih (fun i=>f (i+1)) rs (by simpa using hl) (fun i hi=>by rw [h (i+1) (by omega)];simp)
   rw [List.mapM_map]
   show (do let a ← some r;let b ← (List.range n).mapM fun i=>f (i+1);pure (a::b))=some (r::rs)
   rw [this]
   rfl
theorem keyLits_flat {P:Program}:∀(d:Nat) (t:TypeId) (ks:List Lk) (cs:List Value) (ls:List Lit),flat P d t=some ks→fits ks cs=some ls→P.keyLits d t cs=some ls:=by
 intro d
 induction d with
 | zero=>intro t ks cs ls h;simp [flat] at h
 | succ d ih =>
  intro t ks cs ls h hf
  have hcl:=flat_cells h
  have hlen:=fits_length hf
  rw [flat] at h
  unfold Program.keyLits
  have leaf1:∀{k:Lk},ks=[k]→∃v x,cs=[v]∧k.lit v=some x∧ls=[x]:=by
   intro k hk
   subst hk
   cases cs with
   | nil=>simp [fits] at hf
   | cons v vs =>
    cases vs with
    | nil =>
     simp only [fits,Option.bind_eq_some_iff,Option.map_eq_some_iff] at hf
     obtain ⟨x,h1,r,h2,rfl⟩:=hf
     cases h2
     exact ⟨v,x,rfl,h1,rfl⟩
    | cons=>simp at hlen
  cases hu:P.underlying t with
  | none=>rw [hu] at h;cases h
  | some td =>
   rw [hu] at h
   clear hu
   cases td with
   | bool =>
    simp only at h
    split at h
    ·obtain ⟨v,x,rfl,h1,rfl⟩:=leaf1 (inj h).symm
     cases v<;>simp_all [Lk.lit]
    ·cases h
   | int k =>
    simp only at h
    split at h
    ·obtain ⟨v,x,rfl,h1,rfl⟩:=leaf1 (inj h).symm
     cases v<;>simp [Lk.lit] at h1
     obtain ⟨⟨rfl,hw⟩,rfl⟩:=h1
     simp [hw]
    ·cases h
   | string =>
    simp only at h
    split at h
    ·obtain ⟨v,x,rfl,h1,rfl⟩:=leaf1 (inj h).symm
     cases v<;>simp [Lk.lit] at h1
     obtain ⟨hw,rfl⟩:=h1
     simp [hw]
    ·cases h
   | array n e =>
    simp only [Option.bind_eq_some_iff] at h
    obtain ⟨l,hl,h⟩:=h
    split at h
    ·rename_i hc
     have h:=inj h
     subst h
     obtain ⟨rs,hn,rfl,hr⟩:=fits_rows hf
     have:(List.range n).mapM (fun i=>P.keyLits d e ((cs.drop (i*P.cellsOf e)).take (P.cellsOf e)))=some rs:=by
      refine mapM_range_of _ n rs hn (fun i hi=>?_)
      obtain ⟨r,h1,h2⟩:=hr i hi
      rw [h1,hc.1]
      exact ih e l _ _ hl h2
     have hcs:cs.length=P.cellsOf t:=by rw [hlen,hcl]
     simp only [if_pos hcs,this]
     rfl
    ·cases h
   | struct fs =>
    simp only at h
    split at h
    ·rename_i hn
     simp only [Option.bind_eq_some_iff] at h
     obtain ⟨l,hl,h⟩:=h
     split at h
     ·have h:=inj h
      subst h
      have key:∀(fl:List Field) (off:Nat) (ks:List Lk) (ls:List Lit),flatGo P (flat P d) off fl=some ks→fits ks (cs.drop off)=some ls →
        ∃rs:List (List Lit),fl.mapM (fun f=>P.keyLits d f.type ((cs.drop f.offset).take (P.cellsOf f.type)))=some rs∧rs.flatten=ls:=by
       intro fl
       induction fl with
       | nil =>
        intro off ks ls hk hfi
        simp [flatGo] at hk
        subst hk
        cases hc:cs.drop off with
        | nil=>rw [hc] at hfi;simp [fits] at hfi;exact ⟨[],by simp,by simpa using hfi⟩
        | cons a b=>rw [hc] at hfi;simp [fits] at hfi
       | cons f fl ihf =>
        intro off ks ls hk hfi
        simp only [flatGo,Option.bind_eq_some_iff] at hk
        obtain ⟨l1,h1,hk⟩:=hk
        split at hk
        ·rename_i ho
         simp only [Option.map_eq_some_iff] at hk
         obtain ⟨r1,h2,rfl⟩:=hk
         obtain ⟨m1,m2,rfl,g1,g2⟩:=fits_split hfi
         rw [List.drop_drop] at g2
         obtain ⟨rs,e1,rfl⟩:=ihf _ _ _ h2 g2
         refine ⟨m1::rs,?_,by simp⟩
         rw [List.mapM_cons,e1,ho.1,ho.2,ih f.type l1 _ _ h1 g1]
         rfl
        ·cases hk
      obtain ⟨rs,e1,rfl⟩:=key fs.toList 0 l ls hl (by simpa using hf)
      have hcs:cs.length=P.cellsOf t:=by rw [hlen,hcl]
      simp only [hcs,hn,and_self,if_true,e1]
      rfl
     ·cases h
    ·cases h
   | _=>simp at h
theorem run_equal_flat {P:Program} {m d:Nat} {t:TypeId} {ks:List Lk} {x y:Value} {la lb:List Lit} (hk:P.keyTypeAt m t=true) (hm:m≤10000) (hf:flat P d t=some ks) (fx:x.formed P t=true) (fy:y.formed P t=true)
  (hx:fits ks x.cells.toList=some la) (hy:fits ks y.cells.toList=some lb) {b:Bool} (hb:b=true↔la=lb) (w:World):(Op.equalIn 10000 t x y).run P w=.ok b w:=by
 obtain ⟨r,hr,hi⟩:=run_equalIn_deep (10000-m) m t hk w d d x y la lb fx fy (keyLits_flat d t ks _ _ hf hx) (keyLits_flat d t ks _ _ hf hy)
 rw [show 10000-m+m=10000 by omega] at hr
 rw [hr]
 congr 1
 rw [Bool.eq_iff_iff,hi,hb]
theorem run_eql_flat {P:Program} {m d:Nat} {t:TypeId} {ks:List Lk} {xs ys:Array Value} {la lb:List Lit} (hk:P.keyTypeAt m t=true) (hm:m≤10000) (hf:flat P d t=some ks) (fx:(Value.agg xs).formed P t=true) (fy:(Value.agg ys).formed P t=true)
  (hx:fits ks xs.toList=some la) (hy:fits ks ys.toList=some lb) {b:Bool} (hb:b=true↔la=lb) (w:World):(binOp .eql t (.agg xs) (.agg ys)).run P w=.ok (.bool b) w:=by
 rw [run_eql_struct,run_equal_flat hk hm hf fx fy hx hy hb]
 rfl
theorem run_neq_flat {P:Program} {m d:Nat} {t:TypeId} {ks:List Lk} {xs ys:Array Value} {la lb:List Lit} (hk:P.keyTypeAt m t=true) (hm:m≤10000) (hf:flat P d t=some ks) (fx:(Value.agg xs).formed P t=true) (fy:(Value.agg ys).formed P t=true)
  (hx:fits ks xs.toList=some la) (hy:fits ks ys.toList=some lb) {b:Bool} (hb:b=true↔la=lb) (w:World):(binOp .neq t (.agg xs) (.agg ys)).run P w=.ok (.bool (!b)) w:=by
 rw [run_neq_struct,run_equal_flat hk hm hf fx fy hx hy hb]
 rfl
section
variable {H:Type} {enc:TypeId×Value→H} {P:Program} {w:World} {base:Nat} {spare:Nat→Bool} {held:Bool}
end
end Go.Proofs.YtglfdihomfhmmaaGreatDoor
namespace Go.Proofs.YtglfdihomfhmmaaGreatDoor
open Go.RowKit
abbrev Str:=List UInt8
theorem bs_all (s:ByteArray):s=bs s.data.toList:=(bs_data s).symm
inductive Sh where
 | int (k:IntKind)|bool|str|unit
 | prod (a b:Sh)|st (s:Sh)|arr (n:Nat) (s:Sh)|lst (s:Sh)|sl (s:Sh)|nl (s:Sh)|ref|fn (a b:Sh)|any|np|oref|pt (s:Sh)|mb|fv
 deriving DecidableEq
@[reducible] def Sh.ty:Sh→Type
 | .int _=>Int
 | .bool=>Bool
 | .str=>Str
 | .unit=>Unit
 | .prod a b=>a.ty×b.ty
 | .st s=>s.ty
 | .arr _ s=>List s.ty
 | .lst s=>List s.ty
 | .sl s=>List s.ty
 | .nl _=>Unit
 | .ref=>Nat
 | .fn a b=>a.ty→Option b.ty
 | .any=>Unit
 | .np=>Unit
 | .oref=>Nat
 | .pt s=>s.ty
 | .mb=>Int
 | .fv=>Nat
def Sh.dflt:(s:Sh)→s.ty
 | .int _=>(0:Int)
 | .bool=>false
 | .str=>([]:Str)
 | .unit=>()
 | .prod a b=>(a.dflt,b.dflt)
 | .st s=>s.dflt
 | .arr n s=>replicate n s.dflt
 | .lst _=>[]
 | .sl _=>[]
 | .nl _=>()
 | .ref=>(0:Nat)
 | .fn _ _=>fun _=>none
 | .any=>()
 | .np=>()
 | .oref=>(0:Nat)
 | .pt s=>s.dflt
 | .mb=>(0:Int)
 | .fv=>(0:Nat)
def Sh.size:Sh→Nat
 | .unit=>0
 | .prod a b=>a.size+b.size
 | .st s=>s.size
 | .arr n s=>n*s.size
 | .lst _=>0
 | _=>1
def Sh.agg:Sh→Bool
 | .st _=>true
 | .arr _ _=>true
 | _=>false
def Sh.flat:Sh→Bool
 | .int _=>true
 | .bool=>true
 | .str=>true
 | .unit=>true
 | .prod a b=>a.flat&&b.flat
 | .st s=>s.flat
 | .arr _ s=>s.flat
 | .nl _=>true
 | .any=>true
 | .np=>true
 | .mb=>true
 | _=>false
def Sh.pers:Sh→Bool
 | .ref=>false
 | .oref=>false
 | .prod a b=>a.pers&&b.pers
 | .st s=>s.pers
 | .arr _ s=>s.pers
 | .lst s=>s.pers
 | .sl s=>s.pers
 | .fn a b=>a.pers&&b.pers
 | .pt s=>s.pers
 | _=>true
abbrev Fz:=Nat→Option (Array Value)
def Fz.le (M M':Fz):Prop:=∀g c,M g=some c→M' g=some c
theorem Fz.le_refl (M:Fz):M.le M:=fun _ _ h=>h
theorem Fz.le_trans {A B C:Fz} (h:A.le B) (k:B.le C):A.le C:=fun g c e=>k g c (h g c e)
structure GL (M:Fz):Prop where
 tab:∀p∈GLs,M p.1=some p.2
 num:∀g∈GLi,∃(c:Array Value) (m:Int),M g=some c∧c[0]?=some (.int .i64 m)
 err:∀g∈GLe,∃(c:Array Value) (u:Value),M g=some c∧c[0]?=some u∧(u=.nilIface∨∃t p,u=.iface t p)
theorem GL.mono {M M':Fz} (h:GL M) (e:M.le M'):GL M':=⟨fun p hp=>e _ _ (h.tab p hp),fun g hg=>let ⟨c,m,h,h2⟩:=h.num g hg;⟨c,m,e _ _ h,h2⟩,fun g hg=>let ⟨c,u,h,h2⟩:=h.err g hg;⟨c,u,e _ _ h,h2⟩⟩
structure Over (M:Fz) (w:World):Prop where
 cells:∀g c,M g=some c→∃t fr,w.heap[g]?=some (.cells c t fr)
 gl:GL M
instance {M:Fz} {w:World}:CoeFun (Over M w) fun _=>∀g c,M g=some c→∃t fr,w.heap[g]?=some (.cells c t fr):=⟨Over.cells⟩
def Cl (M:Fz) (A:Option Addr) (vs:List Value):Prop:=∀q,q<vs.length→∃b o c,A=some ⟨b,o,none⟩∧M b=some c∧c[o+q]?=vs[q]?
theorem Cl.nil (M:Fz) (A:Option Addr):Cl M A []:=fun q h=>absurd h (Nat.not_lt_zero q)
theorem Cl.mono {M M':Fz} {A:Option Addr} {vs:List Value} (h:Cl M A vs) (e:M.le M'):Cl M' A vs:=fun q hq=>by
 obtain ⟨b,o,c,h1,h2,h3⟩:=h q hq
 exact ⟨b,o,c,h1,e b c h2,h3⟩
def RepL {α:Type} (R:List Value→α→Prop):List Value→List α→Prop
 | vs,[]=>vs=[]
 | vs,x::xs=>∃c r,vs=c++r∧R c x∧RepL R r xs
theorem RepL.mono {α:Type} {R R':List Value→α→Prop} (h:∀c x,R c x→R' c x):∀{vs:List Value} {xs:List α},RepL R vs xs→RepL R' vs xs
 | vs,[],e=>e
 | vs,x::xs,⟨c,r,e,h1,h2⟩=>⟨c,r,e,h c x h1,h2.mono h⟩
def mkV (s:Sh) (cs:List Value):Value:=if s.agg then .agg cs.toArray else cs.headD undef
def Enters (P:Program) (f:FuncId):Prop:=∀(args:Array Value) (w:World),(callFunc f args).run P w=.ok (.enter f args) w
def Gives (P:Program) (w:World) (M:Fz) (Rb:Fz→List Value→Prop) (b:Sh):Ending→World→Prop:=fun e w' =>
 ∃M' cs,e=.returned (mkV b cs)∧Below w.heap.size w w'∧M.le M'∧(∀g,g<w.heap.size→M' g=M g)∧Over M' w'∧Rb M' cs
def RepC (P:Program) (φ:Nat→Value):(s:Sh)→Fz→List Value→s.ty→Prop
 | .int k,_,cs,x=>cs=[.int k x]∧k.has x
 | .bool,_,cs,x=>cs=[.bool x]
 | .str,_,cs,x=>cs=[.string (bs x)]∧length x≤maxLen
 | .unit,_,cs,_=>cs=[]
 | .prod a b,M,cs,x=>∃c1 c2,cs=c1++c2∧RepC P φ a M c1 x.1∧RepC P φ b M c2 x.2
 | .st s,M,cs,x=>RepC P φ s M cs x
 | .arr n s,M,cs,x=>length x=n∧RepL (RepC P φ s M) cs x
 | .lst s,M,cs,x=>RepL (RepC P φ s M) cs x
 | .sl s,M,cs,x=>∃A n cap vs,cs=[.slice A n cap]∧length x=n∧(n≤cap∧cap≤maxLen)∧Cl M A vs∧RepL (RepC P φ s M) vs x
 | .nl _,_,cs,_=>cs=[.slice none 0 0]
 | .ref,_,cs,x=>cs=[φ x]∧(φ x).oneCell'=true
 | .fn a b,M,cs,p=>∃f cap,cs=[.func (.func f) #[] cap]∧Enters P f∧∀(w:World) (M':Fz),M.le M'→Over M' w→∀ca x,RepC P φ a M' ca x→∀y,p x=some y →
   Calls P f (#[mkV a ca]++cap) w (Gives P w M' (fun M2 cs=>RepC P φ b M2 cs y) b)
 | .mb,_,cs,x=>cs=[.int .u8 x]∧IntKind.u8.has x
 | .fv,_,cs,x=>cs=[.func (.func x) #[] #[]]
 | .any,_,cs,_=>∃v:Value,v.oneCell'=true∧cs=[v]
 | .np,_,cs,_=>cs=[.pointer none]
 | .oref,_,cs,x=>∃v:Value,v.oneCell'=true∧cs=[v]∧(v=.pointer none∨v=φ x)
 | .pt s,M,cs,x=>∃g off vs,cs=[.pointer (some ⟨g,off,none⟩)]∧Cl M (some ⟨g,off,none⟩) vs∧RepC P φ s M vs x
theorem RepL_len {α:Type} {R:List Value→α→Prop} {k:Nat} (h:∀c x,R c x→c.length=k):∀{vs:List Value} {xs:List α},RepL R vs xs→vs.length=xs.length*k
 | vs,[],e=>by cases e;simp
 | vs,x::xs,⟨c,r,e,h1,h2⟩=>by
  have:=RepL_len h h2
  subst e
  rw [List.length_append,h c x h1,this,List.length_cons,Nat.succ_mul]
  omega
def Sh.fixed:Sh→Bool
 | .lst _=>false
 | .prod a b=>a.fixed&&b.fixed
 | .st s=>s.fixed
 | .arr _ s=>s.fixed
 | .sl s=>s.fixed&&s.pers
 | .pt s=>s.fixed&&s.pers
 | .fn a b=>a.fixed&&b.fixed&&(a.pers&&b.pers)
 | _=>true
theorem rep_len {P:Program} {φ:Nat→Value} {M:Fz}:∀{s:Sh} {cs:List Value} {x:s.ty},s.fixed=true→RepC P φ s M cs x→cs.length=s.size:=by
 intro s
 induction s with
 | int k=>intro cs x _ h;simp only [RepC] at h;simp [h.1,Sh.size]
 | mb=>intro cs x _ h;simp only [RepC] at h;simp [h.1,Sh.size]
 | bool=>intro cs x _ h;simp only [RepC] at h;simp [h,Sh.size]
 | str=>intro cs x _ h;simp only [RepC] at h;simp [h.1,Sh.size]
 | unit=>intro cs x _ h;simp only [RepC] at h;simp [h,Sh.size]
 | prod a b iha ihb =>
  intro cs x hf h
  simp only [Sh.fixed,Bool.and_eq_true] at hf
  obtain ⟨c1,c2,rfl,h1,h2⟩:=h
  simp [iha hf.1 h1,ihb hf.2 h2,Sh.size]
 | st s ih=>intro cs x hf h;exact ih hf h
 | arr n s ih =>
  intro cs x hf h
  obtain ⟨h1,h2⟩:=h
  rw [RepL_len (fun c y hc=>ih hf hc) h2,h1]
  rfl
 | lst s ih=>intro cs x hf;simp [Sh.fixed] at hf
 | sl s ih=>intro cs x _ h;obtain ⟨A,n,cap,vs,rfl,_⟩:=h;rfl
 | nl s ih=>intro cs x _ h;simp only [RepC] at h;simp [h,Sh.size]
 | ref=>intro cs x _ h;simp only [RepC] at h;simp [h.1,Sh.size]
 | fn a b iha ihb=>intro cs x _ h;obtain ⟨f,cap,rfl,_⟩:=h;rfl
 | any=>intro cs x _ h;obtain ⟨v,_,rfl⟩:=h;rfl
 | np=>intro cs x _ h;simp only [RepC] at h;subst h;rfl
 | fv=>intro cs x _ h;simp only [RepC] at h;subst h;rfl
 | oref=>intro cs x _ h;obtain ⟨v,_,rfl,_⟩:=h;rfl
 | pt s ih=>intro cs x _ h;obtain ⟨g,off,vs,rfl,_⟩:=h;rfl
theorem RepL_one {α:Type} {R:List Value→α→Prop} (h:∀c x,R c x→∀v∈c,v.oneCell'=true):∀{vs:List Value} {xs:List α},RepL R vs xs→∀v∈vs,v.oneCell'=true
 | vs,[],e,v,hv=>by cases e;cases hv
 | vs,x::xs,⟨c,r,e,h1,h2⟩,v,hv=>by
  subst e
  rcases List.mem_append.1 hv with hv|hv
  ·exact h c x h1 v hv
  ·exact RepL_one h h2 v hv
theorem rep_one {P:Program} {φ:Nat→Value} {M:Fz}:∀{s:Sh} {cs:List Value} {x:s.ty},RepC P φ s M cs x→∀v∈cs,v.oneCell'=true:=by
 intro s
 induction s with
 | int k=>intro cs x h v hv;simp only [RepC] at h;obtain ⟨rfl,_⟩:=h;simp at hv;subst hv;rfl
 | mb=>intro cs x h v hv;simp only [RepC] at h;obtain ⟨rfl,_⟩:=h;simp at hv;subst hv;rfl
 | bool=>intro cs x h v hv;simp only [RepC] at h;subst h;simp at hv;subst hv;rfl
 | str=>intro cs x h v hv;simp only [RepC] at h;obtain ⟨rfl,_⟩:=h;simp at hv;subst hv;rfl
 | unit=>intro cs x h v hv;simp only [RepC] at h;subst h;cases hv
 | prod a b iha ihb =>
  intro cs x h v hv
  obtain ⟨c1,c2,rfl,h1,h2⟩:=h
  rcases List.mem_append.1 hv with hv|hv
  ·exact iha h1 v hv
  ·exact ihb h2 v hv
 | st s ih=>intro cs x h;exact ih h
 | arr n s ih=>intro cs x h;exact RepL_one (fun c y hc=>ih hc) h.2
 | lst s ih=>intro cs x h;exact RepL_one (fun c y hc=>ih hc) h
 | sl s ih=>intro cs x h v hv;obtain ⟨A,n,cap,vs,rfl,_⟩:=h;simp at hv;subst hv;rfl
 | nl s ih=>intro cs x h v hv;simp only [RepC] at h;subst h;simp at hv;subst hv;rfl
 | ref=>intro cs x h v hv;simp only [RepC] at h;obtain ⟨rfl,h2⟩:=h;simp at hv;subst hv;exact h2
 | fn a b iha ihb=>intro cs x h v hv;obtain ⟨f,cap,rfl,_⟩:=h;simp at hv;subst hv;rfl
 | any=>intro cs x h v hv;obtain ⟨u,hu,rfl⟩:=h;simp at hv;subst hv;exact hu
 | np=>intro cs x h v hv;simp only [RepC] at h;subst h;simp at hv;subst hv;rfl
 | fv=>intro cs x h v hv;simp only [RepC] at h;subst h;simp at hv;subst hv;rfl
 | oref=>intro cs x h v hv;obtain ⟨u,hu,rfl,_⟩:=h;simp at hv;subst hv;exact hu
 | pt s ih=>intro cs x h v hv;obtain ⟨g,off,vs,rfl,_⟩:=h;simp at hv;subst hv;rfl
theorem rep_mono {P:Program} {φ:Nat→Value}:∀{s:Sh} {M M':Fz} {cs:List Value} {x:s.ty},M.le M'→RepC P φ s M cs x→RepC P φ s M' cs x:=by
 intro s
 induction s with
 | prod a b iha ihb=>intro M M' cs x e h;obtain ⟨c1,c2,rfl,h1,h2⟩:=h;exact ⟨c1,c2,rfl,iha e h1,ihb e h2⟩
 | st s ih=>intro M M' cs x e h;exact ih e h
 | arr n s ih=>intro M M' cs x e h;exact ⟨h.1,h.2.mono fun c y=>ih e⟩
 | lst s ih=>intro M M' cs x e h;exact RepL.mono (fun c y=>ih e) h
 | sl s ih=>intro M M' cs x e h;obtain ⟨A,n,cap,vs,h1,h2,h3,h4,h5⟩:=h;exact ⟨A,n,cap,vs,h1,h2,h3,h4.mono e,h5.mono fun c y=>ih e⟩
 | pt s ih=>intro M M' cs x e h;obtain ⟨g,off,vs,h1,h2,h3⟩:=h;exact ⟨g,off,vs,h1,h2.mono e,ih e h3⟩
 | fn a b iha ihb=>intro M M' cs x e h;obtain ⟨f,cap,h1,h0,h2⟩:=h;exact ⟨f,cap,h1,h0,fun w M2 e2=>h2 w M2 (Fz.le_trans e e2)⟩
 | _=>intro M M' cs x _ h;exact h
theorem rep_pers {P:Program} {φ φ':Nat→Value}:∀{s:Sh} {M:Fz} {cs:List Value} {x:s.ty},s.pers=true→RepC P φ s M cs x→RepC P φ' s M cs x:=by
 intro s
 induction s generalizing φ φ' with
 | prod a b iha ihb =>
  intro M cs x hp h
  simp only [Sh.pers,Bool.and_eq_true] at hp
  obtain ⟨c1,c2,rfl,h1,h2⟩:=h;exact ⟨c1,c2,rfl,iha hp.1 h1,ihb hp.2 h2⟩
 | st s ih=>intro M cs x hp h;exact ih hp h
 | arr n s ih=>intro M cs x hp h;exact ⟨h.1,h.2.mono fun c y=>ih hp⟩
 | lst s ih=>intro M cs x hp h;exact RepL.mono (fun c y=>ih hp) h
 | sl s ih=>intro M cs x hp h;obtain ⟨A,n,cap,vs,h1,h2,h3,h4,h5⟩:=h;exact ⟨A,n,cap,vs,h1,h2,h3,h4,h5.mono fun c y=>ih hp⟩
 | pt s ih=>intro M cs x hp h;obtain ⟨g,off,vs,h1,h2,h3⟩:=h;exact ⟨g,off,vs,h1,h2,ih hp h3⟩
 | fn a b iha ihb =>
  intro M cs x hp h
  simp only [Sh.pers,Bool.and_eq_true] at hp
  obtain ⟨f,cap,h1,h0,h2⟩:=h
  refine ⟨f,cap,h1,h0,fun w M' e ho ca x hx y hy=>(h2 w M' e ho ca x (iha hp.1 hx) y hy).mono ?_⟩
  rintro e w' ⟨M2,cs,h3,h4,h5,h6,h7,h8⟩
  exact ⟨M2,cs,h3,h4,h5,h6,h7,ihb hp.2 h8⟩
 | ref=>intro M cs x hp;simp [Sh.pers] at hp
 | oref=>intro M cs x hp;simp [Sh.pers] at hp
 | _=>intro M cs x _ h;exact h
theorem rep_flat {P:Program} {φ:Nat→Value}:∀{s:Sh} {M M':Fz} {cs:List Value} {x:s.ty},s.flat=true→RepC P φ s M cs x→RepC P φ s M' cs x:=by
 intro s
 induction s with
 | prod a b iha ihb =>
  intro M M' cs x hp h
  simp only [Sh.flat,Bool.and_eq_true] at hp
  obtain ⟨c1,c2,rfl,h1,h2⟩:=h;exact ⟨c1,c2,rfl,iha hp.1 h1,ihb hp.2 h2⟩
 | st s ih=>intro M M' cs x hp h;exact ih hp h
 | arr n s ih=>intro M M' cs x hp h;exact ⟨h.1,h.2.mono fun c y=>ih hp⟩
 | lst s ih=>intro M M' cs x hp;simp [Sh.flat] at hp
 | sl s ih=>intro M M' cs x hp;simp [Sh.flat] at hp
 | fn a b iha ihb=>intro M M' cs x hp;simp [Sh.flat] at hp
 | ref=>intro M M' cs x hp;simp [Sh.flat] at hp
 | oref=>intro M M' cs x hp;simp [Sh.flat] at hp
 | pt s ih=>intro M M' cs x hp;simp [Sh.flat] at hp
 | _=>intro M M' cs x _ h;exact h
inductive Step where
 | u|l|r|i (k:Nat)
abbrev Path:=List Step
abbrev TV:=Σ s:Sh,s.ty
def getP:(s:Sh)→s.ty→Path→Option TV
 | s,x,[]=>some ⟨s,x⟩
 | .st s,x,.u::p=>getP s x p
 | .prod a _,x,.l::p=>getP a x.1 p
 | .prod _ b,x,.r::p=>getP b x.2 p
 | .arr _ s,x,.i k::p=>getP s (getD x k s.dflt) p
 | .lst s,x,.i k::p=>getP s (getD x k s.dflt) p
 | _,_,_::_=>none
def setP:(s:Sh)→s.ty→Path→TV→Option TV
 | _,_,[],v=>some v
 | .st s,x,.u::p,v=>(setP s x p v).map fun r=>⟨.st r.1,r.2⟩
 | .prod a b,x,.l::p,v=>(setP a x.1 p v).map fun r=>⟨.prod r.1 b,(r.2,x.2)⟩
 | .prod a b,x,.r::p,v=>(setP b x.2 p v).map fun r=>⟨.prod a r.1,(x.1,r.2)⟩
 | .arr n s,x,.i k::p,v=>match setP s (getD x k s.dflt) p v with
  | some r=>if h:r.1=s then some ⟨.arr n s,List.set x k (h▸r.2)⟩ else none
  | none=>none
 | .lst s,x,.i k::p,v=>match setP s (getD x k s.dflt) p v with
  | some r=>if h:r.1=s then some ⟨.lst s,List.set x k (h▸r.2)⟩ else none
  | none=>none
 | _,_,_::_,_=>none
def okP:(s:Sh)→s.ty→Path→Prop
 | _,_,[]=>True
 | .st s,x,.u::p=>okP s x p
 | .prod a _,x,.l::p=>okP a x.1 p
 | .prod _ b,x,.r::p=>okP b x.2 p
 | .arr n s,x,.i k::p=>k<n∧okP s (getD x k s.dflt) p
 | .lst s,x,.i k::p=>k<length x∧okP s (getD x k s.dflt) p
 | _,_,_::_=>False
def offP:Sh→Path→Nat
 | .st s,.u::p=>offP s p
 | .prod a _,.l::p=>offP a p
 | .prod a b,.r::p=>a.size+offP b p
 | .arr _ s,.i k::p=>k*s.size+offP s p
 | .lst s,.i k::p=>k*s.size+offP s p
 | _,_=>0
section
variable {P:Program} {φ:Nat→Value} {M:Fz}
theorem RepL_split {α:Type} {R:List Value→α→Prop} {k:Nat} (hl:∀c x,R c x→c.length=k):∀{vs:List Value} {xs:List α} {j:Nat} {d:α},RepL R vs xs→j<xs.length →
  ∃pre c post,vs=pre++c++post∧pre.length=j*k∧R c (xs.getD j d)∧∀c' y,R c' y→RepL R (pre++c'++post) (xs.set j y)
 | vs,x::xs,0,d,⟨c,r,e,h1,h2⟩,_=>⟨[],c,r,by simpa using e,by simp,by simpa using h1,fun c' y hy=>⟨c',r,by simp,hy,h2⟩⟩
 | vs,x::xs,j+1,d,⟨c,r,e,h1,h2⟩,h=>by
  obtain ⟨pre,m,post,rfl,e2,h3,h4⟩:=RepL_split hl (d:=d) h2 (by simpa using h)
  refine ⟨c++pre,m,post,by simp [e],?_,by simpa using h3,fun c' y hy=>⟨c,pre++c'++post,by simp,h1,h4 c' y hy⟩⟩
  rw [List.length_append,hl c x h1,e2,Nat.succ_mul,Nat.add_comm]
 | vs,[],j,d,_,h=>by simp at h
theorem getP_fixed:∀{s:Sh} {x:s.ty} {p:Path} {v:TV},s.fixed=true→getP s x p=some v→v.1.fixed=true:=by
 intro s
 induction s with
 | st s ih =>
  intro x p v hf h
  cases p with
  | nil=>simp only [getP,injEq] at h;subst h;exact hf
  | cons q p=>cases q<;>simp only [getP,reduceCtorEq] at h;exact ih hf h
 | prod a b iha ihb =>
  intro x p v hf h
  have hf':=hf
  simp only [Sh.fixed,Bool.and_eq_true] at hf'
  cases p with
  | nil=>simp only [getP,injEq] at h;subst h;exact hf
  | cons q p =>
   cases q<;>simp only [getP,reduceCtorEq] at h
   ·exact iha hf'.1 h
   ·exact ihb hf'.2 h
 | arr n s ih =>
  intro x p v hf h
  cases p with
  | nil=>simp only [getP,injEq] at h;subst h;exact hf
  | cons q p=>cases q<;>simp only [getP,reduceCtorEq] at h;exact ih hf h
 | lst s ih=>intro x p v hf;simp [Sh.fixed] at hf
 | _ =>
  intro x p v hf h
  cases p with
  | nil=>simp only [getP,injEq] at h;subst h;exact hf
  | cons q p=>simp only [getP,reduceCtorEq] at h
theorem rep_get:∀{s:Sh} {cs:List Value} {x:s.ty} {p:Path} {v:TV},(s.fixed=true∨∃t,s=.lst t∧t.fixed=true)→RepC P φ s M cs x→getP s x p=some v→okP s x p →
  ∃pre c post,cs=pre++c++post∧pre.length=offP s p∧RepC P φ v.1 M c v.2 ∧
   ∀(c':List Value) (u:TV) (r:TV),c'.length=c.length→RepC P φ u.1 M c' u.2→setP s x p u=some r→RepC P φ r.1 M (pre++c'++post) r.2:=by
 intro s
 induction s with
 | st s ih =>
  intro cs x p v hf h hg ho
  cases p with
  | nil =>
   simp only [getP,injEq] at hg;subst hg
   exact ⟨[],cs,[],by simp,rfl,h,fun c' u r _ hu hs=>by simp only [setP,injEq] at hs;subst hs;simpa using hu⟩
  | cons q p =>
   cases q<;>simp only [getP,reduceCtorEq] at hg
   have hf':s.fixed=true:=hf.elim (fun hf=>hf) fun ⟨t,e,_⟩=>by cases e
   obtain ⟨pre,c,post,h1,h2,h3,h4⟩:=ih (.inl hf') h hg ho
   refine ⟨pre,c,post,h1,h2,h3,fun c' u r hl hu hs=>?_⟩
   simp only [setP,Option.map_eq_some_iff] at hs
   obtain ⟨r',hs,rfl⟩:=hs
   exact h4 c' u r' hl hu hs
 | prod a b iha ihb =>
  intro cs x p v hf h hg ho
  have hf':a.fixed=true∧b.fixed=true:=hf.elim (fun hf=>by simpa [Sh.fixed] using hf) fun ⟨t,e,_⟩=>by cases e
  cases p with
  | nil =>
   simp only [getP,injEq] at hg;subst hg
   exact ⟨[],cs,[],by simp,rfl,h,fun c' u r _ hu hs=>by simp only [setP,injEq] at hs;subst hs;simpa using hu⟩
  | cons q p =>
   obtain ⟨c1,c2,rfl,g1,g2⟩:=h
   cases q<;>simp only [getP,reduceCtorEq] at hg
   ·obtain ⟨pre,c,post,rfl,h2,h3,h4⟩:=iha (.inl hf'.1) g1 hg ho
    refine ⟨pre,c,post++c2,by simp,h2,h3,fun c' u r hl hu hs=>?_⟩
    simp only [setP,Option.map_eq_some_iff] at hs
    obtain ⟨r',hs,rfl⟩:=hs
    exact ⟨pre++c'++post,c2,by simp,h4 c' u r' hl hu hs,g2⟩
   ·obtain ⟨pre,c,post,rfl,h2,h3,h4⟩:=ihb (.inl hf'.2) g2 hg ho
    refine ⟨c1++pre,c,post,by simp,?_,h3,fun c' u r hl hu hs=>?_⟩
    ·rw [List.length_append,h2,rep_len hf'.1 g1];rfl
    ·simp only [setP,Option.map_eq_some_iff] at hs
     obtain ⟨r',hs,rfl⟩:=hs
     exact ⟨c1,pre++c'++post,by simp,g1,h4 c' u r' hl hu hs⟩
 | arr n s ih =>
  intro cs x p v hf h hg ho
  have hf':s.fixed=true:=hf.elim (fun hf=>hf) fun ⟨t,e,_⟩=>by cases e
  cases p with
  | nil =>
   simp only [getP,injEq] at hg;subst hg
   exact ⟨[],cs,[],by simp,rfl,h,fun c' u r _ hu hs=>by simp only [setP,injEq] at hs;subst hs;simpa using hu⟩
  | cons q p =>
   cases q<;>simp only [getP,reduceCtorEq] at hg
   rename_i k
   obtain ⟨hn,hx⟩:=h
   obtain ⟨hk,ho⟩:=ho
   obtain ⟨pre,m,post,rfl,e2,h3,h4⟩:=RepL_split (fun c y hc=>rep_len hf' hc) (d:=s.dflt) hx (Nat.lt_of_lt_of_eq hk hn.symm)
   obtain ⟨pre2,c,post2,rfl,g2,g3,g4⟩:=ih (.inl hf') h3 hg ho
   refine ⟨pre++pre2,c,post2++post,by simp,by rw [List.length_append,e2,g2];rfl,g3,fun c' u r hl hu hs=>?_⟩
   simp only [setP] at hs
   split at hs
   ·rename_i r' hr'
    split at hs
    ·rename_i he
     obtain ⟨r1,r2⟩:=r'
     simp only at he
     subst he
     simp only [injEq] at hs
     subst hs
     refine ⟨by simp [hn],?_⟩
     have:=h4 _ _ (g4 c' u _ hl hu hr')
     simpa using this
    ·cases hs
   ·cases hs
 | lst s ih =>
  intro cs x p v hf h hg ho
  have hf':s.fixed=true:=hf.elim (fun hf=>by simp [Sh.fixed] at hf) fun ⟨t,e,ht⟩=>by cases e;exact ht
  cases p with
  | nil =>
   simp only [getP,injEq] at hg;subst hg
   exact ⟨[],cs,[],by simp,rfl,h,fun c' u r _ hu hs=>by simp only [setP,injEq] at hs;subst hs;simpa using hu⟩
  | cons q p =>
   cases q<;>simp only [getP,reduceCtorEq] at hg
   rename_i k
   obtain ⟨hk,ho⟩:=ho
   obtain ⟨pre,m,post,rfl,e2,h3,h4⟩:=RepL_split (fun c y hc=>rep_len hf' hc) (d:=s.dflt) h hk
   obtain ⟨pre2,c,post2,rfl,g2,g3,g4⟩:=ih (.inl hf') h3 hg ho
   refine ⟨pre++pre2,c,post2++post,by simp,by rw [List.length_append,e2,g2];rfl,g3,fun c' u r hl hu hs=>?_⟩
   simp only [setP] at hs
   split at hs
   ·rename_i r' hr'
    split at hs
    ·rename_i he
     obtain ⟨r1,r2⟩:=r'
     simp only at he
     subst he
     simp only [injEq] at hs
     subst hs
     have:=h4 _ _ (g4 c' u _ hl hu hr')
     have e:pre++pre2++c'++(post2++post)=pre++(pre2++c'++post2)++post:=by simp
     rw [e]
     exact this
    ·cases hs
   ·cases hs
 | _ =>
  intro cs x p v hf h hg ho
  cases p with
  | nil =>
   simp only [getP,injEq] at hg;subst hg
   exact ⟨[],cs,[],by simp,rfl,h,fun c' u r _ hu hs=>by simp only [setP,injEq] at hs;subst hs;simpa using hu⟩
  | cons q p=>simp only [getP,reduceCtorEq] at hg
end
inductive AVal where
 | v (s:Sh) (x:s.ty)
 | ptr (L:Nat) (p:Path) (off:Nat)
 | row (L:Nat)
 | sub (L sz lo n:Nat)
 | avw (L:Nat) (p:Path) (off n:Nat)
 | fp (s:Sh) (x:s.ty)
 | clo (f:FuncId) (caps:List AVal)
 | tup (l:List AVal)
 | nilp
 | undef
 | ifc (z:Bool)
inductive AItem where
 | var (T:TypeId) (s:Sh) (x:s.ty)
 | row (e:TypeId) (s:Sh) (x:List s.ty)
 | mp (T:TypeId) (k v:Sh) (x:List (k.ty×v.ty))
abbrev AEnv:=List (Nat×AVal)
abbrev AStore:=List (Nat×AItem)
def look {α:Type}:List (Nat×α)→Nat→Option α
 | [],_=>none
 | (t,v)::ρ,s=>if Nat.beq t s then some v else look ρ s
theorem look_mem {α:Type}:∀{l:List (Nat×α)} {t:Nat} {v:α},look l t=some v→(t,v)∈l
 | (s,u)::l,t,v,h=>by
  simp only [look] at h
  split at h
  ·rename_i e
   have:=Nat.eq_of_beq_eq_true e
   simp only [injEq] at h
   subst this h
   exact List.mem_cons_self ..
  ·exact List.mem_cons_of_mem _ (look_mem h)
def blkOf:Value→Option Nat
 | .pointer (some a)=>some a.block
 | .slice (some a) _ _=>some a.block
 | _=>none
mutual
def RelV (P:Program) (M:Fz) (φ:Nat→Value):AVal→Value→Prop
 | .v s x,u=>s.fixed=true∧∃cs,u=mkV s cs∧RepC P φ s M cs x
 | .ptr L _ off,u=>∃g,blkOf (φ L)=some g∧u=.pointer (some ⟨g,off,none⟩)
 | .row L,u=>u=φ L∧u.oneCell'=true
 | .sub L sz lo n,u=>∃A m c,φ L=.slice A m c∧lo+n≤c∧c≤maxLen∧∃B,u=.slice B n (c-lo)∧(c≠lo→B=A.map (·.add (lo*sz)))∧(lo=0→B=A)
 | .avw L _ off n,u=>n≤maxLen∧∃g,blkOf (φ L)=some g∧u=.slice (some ⟨g,off,none⟩) n n
 | .fp s x,u=>s.fixed=true∧∃g off cs,u=.pointer (some ⟨g,off,none⟩)∧Cl M (some ⟨g,off,none⟩) cs∧RepC P φ s M cs x
 | .clo f l,u=>∃us:List Value,u=.func (.func f) #[] us.toArray∧RelVs P M φ l us
 | .tup l,u=>∃us:List Value,u=.tuple us.toArray∧RelVs P M φ l us
 | .nilp,u=>u=.pointer none
 | .undef,u=>u=undef
 | .ifc z,u=>(z=true∧u=.nilIface)∨(z=false∧∃t p,u=.iface t p)
def RelVs (P:Program) (M:Fz) (φ:Nat→Value):List AVal→List Value→Prop
 | [],us=>us=[]
 | α::l,us=>∃u r,us=u::r∧RelV P M φ α u∧RelVs P M φ l r
end
def RepM (P:Program) (φ:Nat→Value) (M:Fz) (k v:Sh):List MapEntry→List (k.ty×v.ty)→Nat→Prop
 | [],[],_=>True
 | e::es,y::ys,n=>(∃ck cv,e.key=mkV k ck∧RepC P φ k M ck y.1∧e.val=mkV v cv∧RepC P φ v M cv y.2∧e.born=n)∧RepM P φ M k v es ys (n+1)
 | _,_,_=>False
theorem RepM.mono {P:Program} {φ φ':Nat→Value} {M M':Fz} {k v:Sh} (hk:∀c x,RepC P φ k M c x→RepC P φ' k M' c x) (hv:∀c x,RepC P φ v M c x→RepC P φ' v M' c x):∀{es:List MapEntry} {ys:List (k.ty×v.ty)} {n:Nat},RepM P φ M k v es ys n→RepM P φ' M' k v es ys n
 | [],[],_,_=>trivial
 | e::es,y::ys,n,⟨⟨ck,cv,h1,h2,h3,h4,h5⟩,h6⟩=>⟨⟨ck,cv,h1,hk _ _ h2,h3,hv _ _ h4,h5⟩,RepM.mono hk hv h6⟩
 | [],_::_,_,h=>h.elim
 | _::_,[],_,h=>h.elim
theorem RepM.imp {P:Program} {φ φ':Nat→Value} {M M':Fz} {k v:Sh} (hk:∀c x,RepC P φ k M c x→RepC P φ' k M' c x):∀{es:List MapEntry} {ys:List (k.ty×v.ty)} {n:Nat},(∀y∈ys,∀c,RepC P φ v M c y.2→RepC P φ' v M' c y.2)→RepM P φ M k v es ys n→RepM P φ' M' k v es ys n
 | [],[],_,_,_=>trivial
 | e::es,y::ys,n,hv,⟨⟨ck,cv,h1,h2,h3,h4,h5⟩,h6⟩=>⟨⟨ck,cv,h1,hk _ _ h2,h3,hv y (List.mem_cons_self ..) _ h4,h5⟩,RepM.imp hk (fun y hy=>hv y (List.mem_cons_of_mem _ hy)) h6⟩
 | [],_::_,_,_,h=>h.elim
 | _::_,[],_,_,h=>h.elim
def Held (P:Program) (M:Fz) (φ:Nat→Value) (w:World) (u:Value) (o:Option Nat):AItem→Prop
 | .var T s x=>s.fixed=true∧∃g c,u=.pointer (some ⟨g,0,none⟩)∧o=some g∧w.heap[g]?=some (.cells c T (0,0))∧RepC P φ s M c.toList x
 | .row e s x=>s.fixed=true∧∃A cap,u=.slice A x.length cap∧((o=none∧x=[]∧cap=0∧A=none) ∨
   ∃g c,o=some g∧A=some ⟨g,0,none⟩∧(∃fr,w.heap[g]?=some (.cells c e fr)∧(fr=(0,0)∨(s=.mb∧x.length≤fr.1)))∧x.length≤cap∧cap≤maxLen∧c.size=cap*s.size∧RepC P φ (.lst s) M (c.toList.take (x.length*s.size)) x)
 | .mp T k v x=>(k.fixed=true∧v.fixed=true∧k.pers=true∧(v.pers=true∨v=.ref))∧∃g es,u=.map (some g)∧o=some g∧w.heap[g]?=some (.map es es.size)∧RepM P φ M k v es.toList x 0
structure Base (n0:Nat) where
 w:World
 M:Fz
 E:List Nat
 φ0:Nat→Value
 ok:Over M w
 ds:List Deferred:=[]
structure BelowX (E:List Nat) (n:Nat) (w w':World):Prop where
 os:w'.os=w.os
 tape:w'.tape=w.tape
 output:w'.output=w.output
 size:w.heap.size≤w'.heap.size
 block:∀k,k<n→k ∉ E→w'.heap[k]?=w.heap[k]?
theorem BelowX.refl (E:List Nat) (n:Nat) (w:World):BelowX E n w w:=⟨rfl,rfl,rfl,Nat.le_refl _,fun _ _ _=>rfl⟩
theorem BelowX.trans {E:List Nat} {n:Nat} {a b c:World} (h:BelowX E n a b) (k:BelowX E n b c):BelowX E n a c :=
 ⟨k.os.trans h.os,k.tape.trans h.tape,k.output.trans h.output,Nat.le_trans h.size k.size,fun i hi he=>(k.block i hi he).trans (h.block i hi he)⟩
structure Core (P:Program) {n0:Nat} (b:Base n0) (M:Fz) (φ:Nat→Value) (ξ:Nat→Option Nat) (H:AStore) (w:World):Prop where
 le:b.M.le M
 same:∀g,g<b.w.heap.size→M g=b.M g
 over:Over M w
 below:BelowX b.E b.w.heap.size b.w w
 items:∀L it,(L,it)∈H→Held P M φ w (φ L) (ξ L) it
 feet:∀L it g,(L,it)∈H→ξ L=some g→(b.w.heap.size≤g∨g∈b.E)∧M g=none
 sep:∀L L' it it' g,(L,it)∈H→(L',it')∈H→ξ L=some g→ξ L'=some g→L=L'
 nd:(H.map Prod.fst).Nodup
 keep:∀L,L<n0→φ L=b.φ0 L
def EnvR (P:Program) (M:Fz) (φ:Nat→Value) (ρ:AEnv) (tmps:Array Value):Prop:=∀t α,look ρ t=some α→∃v,tmps[t]?=some v∧RelV P M φ α v
def St (P:Program) {n0:Nat} (b:Base n0) (ρ:AEnv) (H:AStore) (tmps:Array Value) (w:World):Prop:=∃M φ ξ,Core P b M φ ξ H w∧EnvR P M φ ρ tmps
def Sh.labs:(s:Sh)→s.ty→List Nat
 | .ref,x=>[x]
 | .oref,x=>[x]
 | .prod a b,x=>a.labs x.1++b.labs x.2
 | .st s,x=>s.labs x
 | .arr _ s,x=>if s.pers then [] else List.flatMap s.labs x
 | .lst s,x=>if s.pers then [] else List.flatMap s.labs x
 | _,_=>[]
mutual
def AVal.labs:AVal→List Nat
 | .v s x=>if s.pers then [] else s.labs x
 | .ptr L _ _=>[L]
 | .row L=>[L]
 | .sub L _ _ _=>[L]
 | .avw L _ _ _=>[L]
 | .fp s x=>if s.pers then [] else s.labs x
 | .clo _ l=>AVal.labsL l
 | .tup l=>AVal.labsL l
 | _=>[]
def AVal.labsL:List AVal→List Nat
 | []=>[]
 | α::l=>α.labs++AVal.labsL l
end
def AItem.labs:AItem→List Nat
 | .var _ s x=>if s.pers then [] else s.labs x
 | .row _ s x=>if s.pers then [] else List.flatMap s.labs x
 | .mp _ _ v x=>if v.pers then [] else List.flatMap (fun y=>v.labs y.2) x
theorem RepL.imp {α:Type} {R R':List Value→α→Prop}:∀{vs:List Value} {xs:List α},(∀c x,x∈xs→R c x→R' c x)→RepL R vs xs→RepL R' vs xs
 | vs,[],_,e=>e
 | vs,x::xs,h,⟨c,r,e,h1,h2⟩=>⟨c,r,e,h c x (List.mem_cons_self ..) h1,h2.imp fun c y hy=>h c y (List.mem_cons_of_mem _ hy)⟩
theorem rep_labs {P:Program} {φ φ':Nat→Value}:∀{s:Sh} {M:Fz} {cs:List Value} {x:s.ty},(s.fixed=true)→(∀L∈s.labs x,φ' L=φ L)→RepC P φ s M cs x→RepC P φ' s M cs x:=by
 intro s
 induction s with
 | prod a b iha ihb =>
  intro M cs x hf hp h
  simp only [Sh.fixed,Bool.and_eq_true] at hf
  obtain ⟨c1,c2,rfl,h1,h2⟩:=h
  exact ⟨c1,c2,rfl,iha hf.1 (fun L hL=>hp L (List.mem_append_left _ hL)) h1,ihb hf.2 (fun L hL=>hp L (List.mem_append_right _ hL)) h2⟩
 | st s ih=>intro M cs x hf hp h;exact ih hf hp h
 | arr n s ih =>
  intro M cs x hf hp h
  cases hs:s.pers with
  | true=>exact rep_pers (s:=.arr n s) hs h
  | false=>exact ⟨h.1,h.2.imp fun c y hy hc=>ih hf (fun L hL=>hp L (by simp only [Sh.labs,hs];exact List.mem_flatMap.2 ⟨y,hy,hL⟩)) hc⟩
 | lst s ih=>intro M cs x hf;simp [Sh.fixed] at hf
 | sl s ih =>
  intro M cs x hf hp h
  simp only [Sh.fixed,Bool.and_eq_true] at hf
  exact rep_pers (s:=.sl s) hf.2 h
 | pt s ih =>
  intro M cs x hf hp h
  simp only [Sh.fixed,Bool.and_eq_true] at hf
  exact rep_pers (s:=.pt s) hf.2 h
 | ref=>intro M cs x _ hp h;simp only [RepC] at h ⊢;rw [hp x (List.mem_singleton.2 rfl)];exact h
 | oref=>intro M cs x _ hp h;simp only [RepC] at h ⊢;rw [hp x (List.mem_singleton.2 rfl)];exact h
 | fn a b iha ihb =>
  intro M cs x hf hp h
  simp only [Sh.fixed,Bool.and_eq_true] at hf
  exact rep_pers (s:=.fn a b) (by simp [Sh.pers,hf.2]) h
 | _=>intro M cs x _ _ h;exact h
mutual
theorem relV_labs {P:Program} {M:Fz} {φ φ':Nat→Value}:∀{α:AVal} {u:Value},(∀L∈α.labs,φ' L=φ L)→RelV P M φ α u→RelV P M φ' α u
 | .v s x,u,hp,h=>by
  obtain ⟨h1,cs,h2,h3⟩:=h
  refine ⟨h1,cs,h2,?_⟩
  cases hs:s.pers with
  | true=>exact rep_pers hs h3
  | false=>exact rep_labs h1 (fun L hL=>hp L (by simpa [AVal.labs,hs] using hL)) h3
 | .ptr L p off,u,hp,h=>by
  obtain ⟨g,h1,h2⟩:=h
  exact ⟨g,by rw [hp L (by simp [AVal.labs])];exact h1,h2⟩
 | .row L,u,hp,h=>by
  obtain ⟨h1,h2⟩:=h
  exact ⟨by rw [hp L (by simp [AVal.labs])];exact h1,h2⟩
 | .sub L sz lo n,u,hp,h=>by
  obtain ⟨A,m,c,h1,h2⟩:=h
  exact ⟨A,m,c,by rw [hp L (by simp [AVal.labs])];exact h1,h2⟩
 | .avw L p off n,u,hp,h=>by
  obtain ⟨h0,g,h1,h2⟩:=h
  exact ⟨h0,g,by rw [hp L (by simp [AVal.labs])];exact h1,h2⟩
 | .fp s x,u,hp,h=>by
  obtain ⟨h1,g,off,cs,h2,h3,h4⟩:=h
  refine ⟨h1,g,off,cs,h2,h3,?_⟩
  cases hs:s.pers with
  | true=>exact rep_pers hs h4
  | false=>exact rep_labs h1 (fun L hL=>hp L (by simpa [AVal.labs,hs] using hL)) h4
 | .clo f l,u,hp,h=>by
  obtain ⟨us,h1,h2⟩:=h
  exact ⟨us,h1,relVs_labs (fun L hL=>hp L (by simpa [AVal.labs] using hL)) h2⟩
 | .tup l,u,hp,h=>by
  obtain ⟨us,h1,h2⟩:=h
  exact ⟨us,h1,relVs_labs (fun L hL=>hp L (by simpa [AVal.labs] using hL)) h2⟩
 | .nilp,u,_,h=>h
 | .undef,u,_,h=>h
 | .ifc _,u,_,h=>h
theorem relVs_labs {P:Program} {M:Fz} {φ φ':Nat→Value}:∀{l:List AVal} {us:List Value},(∀L∈AVal.labsL l,φ' L=φ L)→RelVs P M φ l us→RelVs P M φ' l us
 | [],us,_,h=>h
 | α::l,us,hp,h=>by
  obtain ⟨u,r,h1,h2,h3⟩:=h
  exact ⟨u,r,h1,relV_labs (fun L hL=>hp L (by simp [AVal.labsL,hL])) h2,relVs_labs (fun L hL=>hp L (by simp [AVal.labsL,hL])) h3⟩
end
mutual
theorem relV_mono {P:Program} {M M':Fz} {φ:Nat→Value} (e:M.le M'):∀{α:AVal} {u:Value},RelV P M φ α u→RelV P M' φ α u
 | .v s x,u,h=>by obtain ⟨h1,cs,h2,h3⟩:=h;exact ⟨h1,cs,h2,rep_mono e h3⟩
 | .ptr L p off,u,h=>h
 | .row L,u,h=>h
 | .sub _ _ _ _,u,h=>h
 | .avw _ _ _ _,u,h=>h
 | .fp s x,u,h=>by obtain ⟨h1,g,off,cs,h2,h3,h4⟩:=h;exact ⟨h1,g,off,cs,h2,h3.mono e,rep_mono e h4⟩
 | .clo f l,u,h=>by obtain ⟨us,h1,h2⟩:=h;exact ⟨us,h1,relVs_mono e h2⟩
 | .tup l,u,h=>by obtain ⟨us,h1,h2⟩:=h;exact ⟨us,h1,relVs_mono e h2⟩
 | .nilp,u,h=>h
 | .undef,u,h=>h
 | .ifc _,u,h=>h
theorem relVs_mono {P:Program} {M M':Fz} {φ:Nat→Value} (e:M.le M'):∀{l:List AVal} {us:List Value},RelVs P M φ l us→RelVs P M' φ l us
 | [],us,h=>h
 | α::l,us,h=>by obtain ⟨u,r,h1,h2,h3⟩:=h;exact ⟨u,r,h1,relV_mono e h2,relVs_mono e h3⟩
end
theorem EnvR.mono {P:Program} {M M':Fz} {φ:Nat→Value} {ρ:AEnv} {tmps:Array Value} (h:EnvR P M φ ρ tmps) (e:M.le M'):EnvR P M' φ ρ tmps:=fun t α ht=>by
 obtain ⟨v,h1,h2⟩:=h t α ht
 exact ⟨v,h1,relV_mono e h2⟩
def envLabs (ρ:AEnv):List Nat:=ρ.flatMap fun x=>x.2.labs
theorem EnvR.labs {P:Program} {M:Fz} {φ φ':Nat→Value} {ρ:AEnv} {tmps:Array Value} (h:EnvR P M φ ρ tmps) (e:∀L∈envLabs ρ,φ' L=φ L):EnvR P M φ' ρ tmps:=fun t α ht=>by
 obtain ⟨v,h1,h2⟩:=h t α ht
 exact ⟨v,h1,relV_labs (fun L hL=>e L (List.mem_flatMap.2 ⟨_,look_mem ht,hL⟩)) h2⟩
theorem held_labs {P:Program} {M:Fz} {φ φ':Nat→Value} {w:World} {u:Value} {o:Option Nat}:∀{it:AItem},(∀L∈it.labs,φ' L=φ L)→Held P M φ w u o it→Held P M φ' w u o it
 | .var T s x,hp,h=>by
  obtain ⟨h1,g,c,h2,h3,h4,h5⟩:=h
  refine ⟨h1,g,c,h2,h3,h4,?_⟩
  cases hs:s.pers with
  | true=>exact rep_pers hs h5
  | false=>exact rep_labs h1 (fun L hL=>hp L (by simpa [AItem.labs,hs] using hL)) h5
 | .row e s x,hp,h=>by
  obtain ⟨h1,A,cap,h2,h3⟩:=h
  refine ⟨h1,A,cap,h2,?_⟩
  rcases h3 with h3|⟨g,c,h3,h4,h5,h6,h7,h8,h9⟩
  ·exact .inl h3
  ·refine .inr ⟨g,c,h3,h4,h5,h6,h7,h8,?_⟩
   cases hs:s.pers with
   | true=>exact rep_pers (s:=.lst s) hs h9
   | false=>exact RepL.imp (fun c y hy hc=>rep_labs h1 (fun L hL=>hp L (by simp only [AItem.labs,hs];exact List.mem_flatMap.2 ⟨y,hy,hL⟩)) hc) h9
 | .mp T k v x,hp,h=>by
  obtain ⟨h1,g,es,h2,h3,h4,h5⟩:=h
  refine ⟨h1,g,es,h2,h3,h4,h5.imp (fun _ _=>rep_pers h1.2.2.1) (fun y hy c hc=>?_)⟩
  cases hs:v.pers with
  | true=>exact rep_pers hs hc
  | false=>exact rep_labs h1.2.1 (fun L hL=>hp L (by simp only [AItem.labs,hs];exact List.mem_flatMap.2 ⟨y,hy,hL⟩)) hc
theorem held_kept {P:Program} {M M':Fz} {φ:Nat→Value} {w w':World} {u:Value} {o:Option Nat} (e:M.le M'):∀{it:AItem},Held P M φ w u o it→(∀g,o=some g→w'.heap[g]?=w.heap[g]?)→Held P M' φ w' u o it
 | .var T s x,h,hk=>by
  obtain ⟨h1,g,c,h2,h3,h4,h5⟩:=h
  exact ⟨h1,g,c,h2,h3,(hk g h3).trans h4,rep_mono e h5⟩
 | .row t s x,h,hk=>by
  obtain ⟨h1,A,cap,h2,h3⟩:=h
  refine ⟨h1,A,cap,h2,?_⟩
  rcases h3 with h3|⟨g,c,h3,h4,h5,h6,h7,h8,h9⟩
  ·exact .inl h3
  ·exact .inr ⟨g,c,h3,h4,h5.imp fun fr q=>⟨(hk g h3).trans q.1,q.2⟩,h6,h7,h8,rep_mono (s:=.lst s) e h9⟩
 | .mp T k v x,h,hk=>by
  obtain ⟨h1,g,es,h2,h3,h4,h5⟩:=h
  exact ⟨h1,g,es,h2,h3,(hk g h3).trans h4,h5.mono (fun _ _=>rep_mono e) (fun _ _=>rep_mono e)⟩
theorem held_lt {P:Program} {M:Fz} {φ:Nat→Value} {w:World} {u:Value} {o:Option Nat}:∀{it:AItem},Held P M φ w u o it→∀g,o=some g→g<w.heap.size
 | .var T s x,h,g,hg=>by
  obtain ⟨h1,g',c,h2,h3,h4,h5⟩:=h
  obtain rfl:=inj (h3.symm.trans hg)
  exact (Array.getElem?_eq_some_iff.1 h4).1
 | .row t s x,h,g,hg=>by
  obtain ⟨h1,A,cap,h2,h3⟩:=h
  rcases h3 with h3|⟨g',c,h3,h4,h5,_⟩
  ·rw [h3.1] at hg;cases hg
  ·obtain rfl:=inj (h3.symm.trans hg)
   exact (Array.getElem?_eq_some_iff.1 h5.choose_spec.1).1
 | .mp T k v x,h,g,hg=>by
  obtain ⟨h1,g',es,h2,h3,h4,h5⟩:=h
  obtain rfl:=inj (h3.symm.trans hg)
  exact (Array.getElem?_eq_some_iff.1 h4).1
section
variable {P:Program} {n0:Nat} {b:Base n0} {M:Fz} {φ:Nat→Value} {ξ:Nat→Option Nat} {H:AStore} {w:World} {ρ:AEnv}
def upd {α:Type} (f:Nat→α) (L:Nat) (x:α):Nat→α:=fun l=>if l=L then x else f l
theorem upd_same {α:Type} (f:Nat→α) (L:Nat) (x:α):upd f L x L=x:=by simp [upd]
theorem upd_ne {α:Type} {f:Nat→α} {L l:Nat} {x:α} (h:l≠L):upd f L x l=f l:=by simp [upd,h]
def storeLabs (H:AStore):List Nat:=H.flatMap fun x=>x.1::x.2.labs
def freshB (n0 L:Nat) (ρ:AEnv) (H:AStore):Bool:=Nat.ble n0 L&&!(envLabs ρ++storeLabs H).any (Nat.beq L)
theorem fresh_env {L:Nat} (h:freshB n0 L ρ H=true) {α:Type} (f:Nat→α) (x:α):∀l∈envLabs ρ,upd f L x l=f l:=by
 intro l hl
 refine upd_ne ?_
 rintro rfl
 simp only [freshB,Bool.and_eq_true,Bool.not_eq_true'] at h
 have:=h.2
 rw [List.any_eq_false] at this
 exact this l (List.mem_append_left _ hl) (by simp)
theorem fresh_store {L:Nat} (h:freshB n0 L ρ H=true):∀l∈storeLabs H,l≠L:=by
 rintro l hl rfl
 simp only [freshB,Bool.and_eq_true,Bool.not_eq_true'] at h
 have:=h.2
 rw [List.any_eq_false] at this
 exact this l (List.mem_append_right _ hl) (by simp)
theorem fresh_ge {L:Nat} (h:freshB n0 L ρ H=true):n0≤L:=by
 simp only [freshB,Bool.and_eq_true] at h
 exact Nat.le_of_ble_eq_true h.1
theorem mem_labs {L:Nat} {it:AItem} (h:(L,it)∈H):L∈storeLabs H∧∀l∈it.labs,l∈storeLabs H :=
 ⟨List.mem_flatMap.2 ⟨_,h,List.mem_cons_self ..⟩,fun l hl=>List.mem_flatMap.2 ⟨_,h,List.mem_cons_of_mem _ hl⟩⟩
theorem Core.over' (s:Core P b M φ ξ H w) {w':World} (hk:∀g c,M g=some c→w'.heap[g]?=w.heap[g]?):Over M w':=⟨fun g c h=>by
 obtain ⟨t,fr,e⟩:=s.over g c h
 exact ⟨t,fr,(hk g c h).trans e⟩,s.over.gl⟩
theorem Core.draws (s:Core P b M φ ξ H w) (n:Nat):Core P b M φ ξ H (w.drewN n) :=
 ⟨s.le,s.same,⟨s.over.cells,s.over.gl⟩,⟨s.below.os,s.below.tape,s.below.output,s.below.size,s.below.block⟩,fun L it h=>held_kept (Fz.le_refl _) (s.items L it h) fun _ _=>rfl,s.feet,s.sep,s.nd,s.keep⟩
theorem Core.sub (s:Core P b M φ ξ H w) {H':AStore} (h:H'.Sublist H):Core P b M φ ξ H' w :=
 ⟨s.le,s.same,s.over,s.below,fun L it hi=>s.items L it (h.subset hi),fun L it g hi=>s.feet L it g (h.subset hi),fun L L' it it' g h1 h2=>s.sep L L' it it' g (h.subset h1) (h.subset h2),s.nd.sublist (h.map _),s.keep⟩
theorem Core.grow (s:Core P b M φ ξ H w) {w':World} {L:Nat} {u:Value} {o:Option Nat} {it:AItem} (hL:freshB n0 L ρ H=true)
  (hos:w'.os=w.os) (htp:w'.tape=w.tape) (hou:w'.output=w.output) (hsz:w.heap.size≤w'.heap.size) (hk:∀k,k<w.heap.size→w'.heap[k]?=w.heap[k]?)
  (hit:Held P M (upd φ L u) w' u o it) (ho:∀g,o=some g→w.heap.size≤g):Core P b M (upd φ L u) (upd ξ L o) ((L,it)::H) w':=by
 have hne:=fresh_store hL
 have lt:∀g c,M g=some c→g<w.heap.size:=fun g c h=>by
  obtain ⟨t,fr,e⟩:=s.over g c h
  exact (Array.getElem?_eq_some_iff.1 e).1
 have foot:∀l i,(l,i)∈H→∀g,ξ l=some g→g<w.heap.size:=fun l i h g hg=>held_lt (s.items l i h) g hg
 refine ⟨s.le,s.same,s.over' fun g c h=>hk g (lt g c h),s.below.trans ⟨hos,htp,hou,hsz,fun k hkk _=>hk k (Nat.lt_of_lt_of_le hkk s.below.size)⟩,?_,?_,?_,?_,?_⟩
 ·intro l i hi
  rcases List.mem_cons.1 hi with e|hi
  ·simp only [Prod.mk.injEq] at e
   obtain ⟨rfl,rfl⟩:=e
   rw [upd_same,upd_same]
   exact hit
  ·have h1:=mem_labs hi
   rw [upd_ne (hne l h1.1),upd_ne (hne l h1.1)]
   exact held_labs (fun x hx=>upd_ne (hne x (h1.2 x hx))) (held_kept (Fz.le_refl _) (s.items l i hi) fun g hg=>hk g (foot l i hi g hg))
 ·intro l i g hi hg
  rcases List.mem_cons.1 hi with e|hi
  ·simp only [Prod.mk.injEq] at e
   obtain ⟨rfl,rfl⟩:=e
   rw [upd_same] at hg
   have:=ho g hg
   refine ⟨.inl (Nat.le_trans s.below.size this),?_⟩
   cases hM:M g with
   | none=>rfl
   | some c=>have:=lt g c hM;omega
  ·rw [upd_ne (hne l (mem_labs hi).1)] at hg
   exact s.feet l i g hi hg
 ·intro l l' i i' g hi hi' hg hg'
  rcases List.mem_cons.1 hi with e|hj<;>rcases List.mem_cons.1 hi' with e'|hj'
  ·simp only [Prod.mk.injEq] at e e'
   exact e.1.trans e'.1.symm
  ·simp only [Prod.mk.injEq] at e
   rw [e.1,upd_same] at hg
   rw [upd_ne (hne l' (mem_labs hj').1)] at hg'
   have:=foot l' i' hj' g hg'
   have:=ho g hg
   omega
  ·simp only [Prod.mk.injEq] at e'
   rw [e'.1,upd_same] at hg'
   rw [upd_ne (hne l (mem_labs hj).1)] at hg
   have:=foot l i hj g hg
   have:=ho g hg'
   omega
  ·rw [upd_ne (hne l (mem_labs hj).1)] at hg
   rw [upd_ne (hne l' (mem_labs hj').1)] at hg'
   exact s.sep l l' i i' g hj hj' hg hg'
 ·rw [List.map_cons,List.nodup_cons]
  refine ⟨fun h=>?_,s.nd⟩
  obtain ⟨x,hx,e⟩:=List.mem_map.1 h
  exact hne x.1 (mem_labs (L:=x.1) (it:=x.2) hx).1 e
 ·intro l hl
  rw [upd_ne (by have:=fresh_ge hL;omega)]
  exact s.keep l hl
theorem Core.alloc (s:Core P b M φ ξ H w) {L:Nat} {u:Value} {it:AItem} {c:Array Value} {T:TypeId} (hL:freshB n0 L ρ H=true)
  (hit:Held P M (upd φ L u) (w.alloc (.cells c T)) u (some w.heap.size) it):Core P b M (upd φ L u) (upd ξ L (some w.heap.size)) ((L,it)::H) (w.alloc (.cells c T)) :=
 s.grow hL rfl rfl rfl ((Below.refl w.heap.size w).alloc (Nat.le_refl _) (.cells c T)).size ((Below.refl w.heap.size w).alloc (Nat.le_refl _) (.cells c T)).block hit (fun g hg=>by cases hg;exact Nat.le_refl _)
theorem Core.write {H1 H2:AStore} {L:Nat} {it it':AItem} (s:Core P b M φ ξ (H1++(L,it)::H2) w) {w':World} {g:Nat} (hg:ξ L=some g)
  (hos:w'.os=w.os) (htp:w'.tape=w.tape) (hou:w'.output=w.output) (hsz:w.heap.size≤w'.heap.size) (hk:∀k,k≠g→w'.heap[k]?=w.heap[k]?)
  (hit:Held P M φ w' (φ L) (ξ L) it'):Core P b M φ ξ (H1++(L,it')::H2) w':=by
 have hm:(L,it)∈H1++(L,it)::H2:=by simp
 have hf:=s.feet L it g hm hg
 have cases':∀l i,(l,i)∈H1++(L,it')::H2→(l=L∧i=it')∨(l≠L∧(l,i)∈H1++(L,it)::H2):=by
  intro l i h
  have hn:=s.nd
  rw [List.map_append,List.map_cons,List.nodup_append] at hn
  obtain ⟨h1,h2,h3⟩:=hn
  rw [List.nodup_cons] at h2
  rcases List.mem_append.1 h with h|h
  ·exact .inr ⟨fun e=>h3 l (List.mem_map.2 ⟨_,h,rfl⟩) L (List.mem_cons_self ..) e,List.mem_append_left _ h⟩
  ·rcases List.mem_cons.1 h with e|h
   ·simp only [Prod.mk.injEq] at e;exact .inl e
   ·exact .inr ⟨fun e=>h2.1 (e▸List.mem_map.2 ⟨_,h,rfl⟩),List.mem_append_right _ (List.mem_cons_of_mem _ h)⟩
 refine ⟨s.le,s.same,s.over' fun k c h=>hk k (fun e=>by rw [e,hf.2] at h;cases h),s.below.trans ⟨hos,htp,hou,hsz,fun k hkk he=>hk k fun e=>?_⟩,?_,?_,?_,?_,s.keep⟩
 ·subst e
  rcases hf.1 with h|h
  ·omega
  ·exact he h
 ·intro l i hi
  rcases cases' l i hi with ⟨rfl,rfl⟩|⟨hne,hi⟩
  ·exact hit
  ·exact held_kept (Fz.le_refl _) (s.items l i hi) fun k hkk=>hk k fun e=>hne (s.sep l L i it g hi hm (e▸hkk) hg)
 ·intro l i k hi hkk
  rcases cases' l i hi with ⟨rfl,rfl⟩|⟨_,hi⟩
  ·exact s.feet l it k hm hkk
  ·exact s.feet l i k hi hkk
 ·intro l l' i i' k hi hi' h1 h2
  rcases cases' l i hi with ⟨rfl,rfl⟩|⟨_,hj⟩<;>rcases cases' l' i' hi' with ⟨rfl,rfl⟩|⟨_,hj'⟩
  ·rfl
  ·exact s.sep _ _ it i' k hm hj' h1 h2
  ·exact s.sep _ _ i it k hj hm h1 h2
  ·exact s.sep _ _ i i' k hj hj' h1 h2
 ·have:=s.nd
  simpa using this
theorem EnvR.put {tmps:Array Value} (h:EnvR P M φ ρ tmps) (d:Nat) (α:AVal) (v:Value) (hd:d<tmps.size) (hr:RelV P M φ α v):EnvR P M φ ((d,α)::ρ) (tmps.setIfInBounds d v):=by
 intro t β ht
 simp only [look] at ht
 by_cases e:d=t
 ·subst e
  simp at ht
  subst ht
  exact ⟨v,by simp [hd],hr⟩
 ·have:Nat.beq d t=false:=by
   cases hb:Nat.beq d t with
   | false=>rfl
   | true=>exact absurd (Nat.eq_of_beq_eq_true hb) e
  rw [this] at ht
  simp at ht
  obtain ⟨u,h1,h2⟩:=h t β ht
  exact ⟨u,by simp [e,h1],h2⟩
end
def inB (k:IntKind) (n:Int):Bool:=decide (k.min≤n)&&decide (n≤k.max)
theorem inB_ok {k:IntKind} {n:Int} (h:inB k n=true):k.has n:=by
 simp only [inB,Bool.and_eq_true,decide_eq_true_eq] at h
 exact h
theorem has_wrap (k:IntKind) (n:Int):k.has (k.wrap n):=by
 have:=wf_wrap k n
 simp only [Lit.wf,Bool.and_eq_true,decide_eq_true_eq] at this
 exact this
def szB (P:Program) (T n:Nat):Bool:=match P.info? T with|some i=>Nat.beq i.size n|none=>false
theorem szB_ok {P:Program} {T n:Nat} (h:szB P T n=true) (w:World):(sizeOf T).run P w=.ok n w:=by
 unfold szB at h
 cases hi:P.info? T with
 | none=>simp [hi] at h
 | some i =>
  simp only [hi] at h
  have:=Nat.eq_of_beq_eq_true h
  subst this
  simp [sizeOf,typeInfo,hi]
def agB (P:Program) (T:Nat) (b:Bool):Bool:=match P.underlying T with
 | some (.struct _)=>b
 | some (.array _ _)=>b
 | some _=>!b
 | none=>false
theorem agB_ok {P:Program} {T:Nat} {b:Bool} (h:agB P T b=true) (w:World):(isAgg T).run P w=.ok b w:=by
 unfold agB at h
 cases hu:P.underlying T with
 | none=>simp [hu] at h
 | some d =>
  simp only [hu] at h
  simp only [isAgg,Sem.run_bind,run_underlying hu,Result.andThen_ok]
  cases d<;>simp_all
def prodL:List Sh→Sh
 | []=>.unit
 | [s]=>s
 | s::l=>.prod s (prodL l)
def shOf (P:Program) (z:Bool):Nat→TypeId→Sh
 | 0,_=>.any
 | d+1,t=>match P.underlying t with
  | some .bool=>.bool
  | some (.int k)=>.int k
  | some .string=>.str
  | some (.slice e)=>if z then .nl (shOf P false d e) else .sl (shOf P false d e)
  | some (.array n e)=>.arr n (shOf P false d e)
  | some (.struct fs)=>.st (prodL (fs.toList.map fun f=>shOf P z d f.type))
  | some (.pointer _)=>if z then .np else .any
  | _=>.any
def fPath (m j:Nat):Path:=.u::(replicate j .r++if Nat.blt (j+1) m then [.l] else [])
def decL {α:Type} (f:List Value→Option (α×List Value)):Nat→List Value→Option (List α×List Value)
 | 0,cs=>some ([],cs)
 | n+1,cs=>match f cs with
  | some (x,r)=>match decL f n r with
   | some (l,r)=>some (x::l,r)
   | none=>none
  | none=>none
def nlD:List Value→Option (Unit×List Value)
 | .slice none 0 0::r=>some ((),r)
 | _=>none
def slD {α:Type}:List Value→Option (List α×List Value)
 | .slice none 0 0::r=>some ([],r)
 | _=>none
def anyD:List Value→Option (Unit×List Value)
 | .pointer none::r=>some ((),r)
 | .nilIface::r=>some ((),r)
 | .nilFunc::r=>some ((),r)
 | .map none::r=>some ((),r)
 | _=>none
def npD:List Value→Option (Unit×List Value)
 | .pointer none::r=>some ((),r)
 | _=>none
def dec:(s:Sh)→List Value→Option (s.ty×List Value)
 | .int k,.int k' n::r=>if k'=k∧inB k n=true then some (n,r) else none
 | .bool,.bool x::r=>some (x,r)
 | .str,.string x::r=>if Nat.ble x.size maxLen then some (x.data.toList,r) else none
 | .unit,cs=>some ((),cs)
 | .prod a b,cs=>match dec a cs with
  | some (x,r)=>match dec b r with
   | some (y,r)=>some ((x,y),r)
   | none=>none
  | none=>none
 | .st s,cs=>dec s cs
 | .arr n s,cs=>decL (dec s) n cs
 | .nl _,cs=>nlD cs
 | .sl _,cs=>slD cs
 | .any,cs=>anyD cs
 | .np,cs=>npD cs
 | _,_=>none
theorem decL_ok {α:Type} {f:List Value→Option (α×List Value)} {R:List Value→α→Prop} (h:∀cs x r,f cs=some (x,r)→∃c,cs=c++r∧R c x):∀{n:Nat} {cs:List Value} {l:List α} {r:List Value},decL f n cs=some (l,r)→l.length=n∧∃c,cs=c++r∧RepL R c l
 | 0,cs,l,r,e=>by
  simp only [decL,injEq,Prod.mk.injEq] at e
  obtain ⟨rfl,rfl⟩:=e
  exact ⟨rfl,[],rfl,rfl⟩
 | n+1,cs,l,r,e=>by
  simp only [decL] at e
  cases h1:f cs with
  | none=>simp [h1] at e
  | some q =>
   obtain ⟨x,r1⟩:=q
   simp only [h1] at e
   cases h2:decL f n r1 with
   | none=>simp [h2] at e
   | some q =>
    obtain ⟨l1,r2⟩:=q
    simp only [h2,injEq,Prod.mk.injEq] at e
    obtain ⟨rfl,rfl⟩:=e
    obtain ⟨c,rfl,hc⟩:=h cs x r1 h1
    obtain ⟨hl,c',rfl,hc'⟩:=decL_ok h h2
    exact ⟨by simp [hl],c++c',by simp,c,c',rfl,hc,hc'⟩
theorem dec_ok {P:Program} {φ:Nat→Value} {M:Fz}:∀{s:Sh} {cs:List Value} {x:s.ty} {r:List Value},dec s cs=some (x,r)→∃c,cs=c++r∧RepC P φ s M c x:=by
 intro s
 induction s with
 | int k =>
  intro cs x r h
  rcases cs with _|⟨v,cs⟩
  ·simp [dec] at h
  ·cases v<;>simp only [dec,reduceCtorEq] at h
   split at h
   ·rename_i hh
    simp only [injEq,Prod.mk.injEq] at h
    obtain ⟨rfl,rfl⟩:=h
    obtain ⟨rfl,h2⟩:=hh
    exact ⟨_,rfl,rfl,inB_ok h2⟩
   ·cases h
 | bool =>
  intro cs x r h
  rcases cs with _|⟨v,cs⟩
  ·simp [dec] at h
  ·cases v<;>simp only [dec,reduceCtorEq,injEq,Prod.mk.injEq] at h
   obtain ⟨rfl,rfl⟩:=h
   exact ⟨_,rfl,rfl⟩
 | str =>
  intro cs x r h
  rcases cs with _|⟨v,cs⟩
  ·simp [dec] at h
  ·cases v<;>simp only [dec,reduceCtorEq] at h
   rename_i q
   split at h
   ·rename_i hh
    simp only [injEq,Prod.mk.injEq] at h
    obtain ⟨rfl,rfl⟩:=h
    exact ⟨[.string q],rfl,by rw [← bs_all],Nat.le_of_ble_eq_true hh⟩
   ·cases h
 | unit =>
  intro cs x r h
  simp only [dec,injEq,Prod.mk.injEq] at h
  obtain ⟨_,rfl⟩:=h
  exact ⟨[],rfl,rfl⟩
 | prod a b iha ihb =>
  intro cs x r h
  simp only [dec] at h
  cases h1:dec a cs with
  | none=>simp [h1] at h
  | some q =>
   obtain ⟨y,r1⟩:=q
   simp only [h1] at h
   cases h2:dec b r1 with
   | none=>simp [h2] at h
   | some q =>
    obtain ⟨z,r2⟩:=q
    simp only [h2,injEq,Prod.mk.injEq] at h
    obtain ⟨rfl,rfl⟩:=h
    obtain ⟨c,rfl,hc⟩:=iha h1
    obtain ⟨c',rfl,hc'⟩:=ihb h2
    exact ⟨c++c',by simp,c,c',rfl,hc,hc'⟩
 | st s ih=>intro cs x r h;exact ih h
 | arr n s ih =>
  intro cs x r h
  obtain ⟨h1,c,h2,h3⟩:=decL_ok (fun cs x r h=>ih h) h
  exact ⟨c,h2,h1,h3⟩
 | nl s ih =>
  intro cs x r h
  change nlD cs=some (x,r) at h
  unfold nlD at h
  split at h
  ·simp only [injEq,Prod.mk.injEq] at h
   obtain ⟨_,rfl⟩:=h
   exact ⟨_,rfl,rfl⟩
  ·cases h
 | sl s ih =>
  intro cs x r h
  change slD cs=some (x,r) at h
  unfold slD at h
  split at h
  ·simp only [injEq,Prod.mk.injEq] at h
   obtain ⟨rfl,rfl⟩:=h
   exact ⟨_,rfl,none,0,0,[],rfl,rfl,⟨Nat.le_refl _,by simp [maxLen]⟩,Cl.nil _ _,rfl⟩
  ·cases h
 | any =>
  intro cs x r h
  change anyD cs=some (x,r) at h
  unfold anyD at h
  split at h<;>first
   | (simp only [injEq,Prod.mk.injEq] at h;obtain ⟨_,rfl⟩:=h;exact ⟨_,rfl,_,rfl,rfl⟩)
   | cases h
 | np =>
  intro cs x r h
  change npD cs=some (x,r) at h
  unfold npD at h
  split at h
  ·simp only [injEq,Prod.mk.injEq] at h
   obtain ⟨_,rfl⟩:=h
   exact ⟨_,rfl,rfl⟩
  ·cases h
 | _=>intro cs x r h;simp [dec] at h
def cval (P:Program) (ty:TypeId):Value→Option AVal
 | .int k n=>if inB k n=true then some (.v (.int k) n) else none
 | .bool b=>some (.v .bool b)
 | .string s=>if Nat.ble s.size maxLen=true then some (.v .str s.data.toList) else none
 | .slice none 0 0=>some (.v (.nl .any) ())
 | .pointer none=>some .nilp
 | .nilIface=>some (.v .any ())
 | .agg cs=>if (shOf P true 20 ty).agg&&(shOf P true 20 ty).fixed then match dec (shOf P true 20 ty) cs.toList with
  | some (x,[])=>some (.v (shOf P true 20 ty) x)
  | _=>none else none
 | _=>none
theorem cval_ok {P:Program} {M:Fz} {φ:Nat→Value} {ty:TypeId} {v:Value} {α:AVal} (h:cval P ty v=some α):RelV P M φ α v:=by
 unfold cval at h
 split at h
 ·split at h
  ·rename_i hh
   simp only [injEq] at h;subst h
   exact ⟨rfl,_,rfl,rfl,inB_ok hh⟩
  ·cases h
 ·simp only [injEq] at h;subst h
  exact ⟨rfl,_,rfl,rfl⟩
 ·split at h
  ·rename_i q hh
   simp only [injEq] at h;subst h
   exact ⟨rfl,[.string q],rfl,by rw [← bs_all],Nat.le_of_ble_eq_true hh⟩
  ·cases h
 ·simp only [injEq] at h;subst h
  exact ⟨rfl,_,rfl,rfl⟩
 ·simp only [injEq] at h;subst h
  rfl
 ·simp only [injEq] at h;subst h
  exact ⟨rfl,_,rfl,_,rfl,rfl⟩
 ·split at h
  ·rename_i hh
   simp only [Bool.and_eq_true] at hh
   split at h
   ·rename_i x hd
    simp only [injEq] at h;subst h
    obtain ⟨c,hc,hr⟩:=dec_ok (P:=P) (φ:=φ) (M:=M) hd
    rw [List.append_nil] at hc
    refine ⟨hh.2,c,?_,hr⟩
    rw [← hc]
    simp [mkV,hh.1]
   ·cases h
  ·cases h
 ·cases h
def evA (P:Program) (ρ:AEnv) (ty:TypeId):Operand→Option AVal
 | .tmp t=>look ρ t
 | .const v=>cval P ty v
 | .func f=>some (.clo f [])
 | .global _=>none
section
variable {P:Program} {n0:Nat} {b:Base n0} {M:Fz} {φ:Nat→Value} {ξ:Nat→Option Nat} {H:AStore} {w:World} {ρ:AEnv}
theorem evA_ok {a:Act} (he:EnvR P M φ ρ a.tmps) {ty:TypeId} {x:Operand} {α:AVal} (h:evA P ρ ty x=some α):RelV P M φ α (a.eval x):=by
 cases x with
 | tmp t =>
  obtain ⟨v,h1,h2⟩:=he t α h
  obtain ⟨hl,h1⟩:=Array.getElem?_eq_some_iff.1 h1
  have:a.eval (.tmp t)=v:=by simp only [Act.eval,Array.getD,hl,dif_pos];exact h1
  rw [this];exact h2
 | const v=>exact cval_ok h
 | func f =>
  simp only [evA,injEq] at h;subst h
  exact ⟨[],rfl,rfl⟩
 | global g=>simp [evA] at h
def AItem.tv:AItem→TV
 | .var _ s x=>⟨s,x⟩
 | .row _ s x=>⟨.lst s,x⟩
 | .mp _ _ _ _=>⟨.unit,()⟩
def loaded:TV→AVal
 | ⟨.ref,x⟩=>.row x
 | ⟨.np,_⟩=>.nilp
 | ⟨.pt s,x⟩=>.fp s x
 | ⟨.mb,x⟩=>.v (.int .u8) x
 | ⟨.fv,x⟩=>.clo x []
 | ⟨s,x⟩=>.v s x
def Sh.isV:Sh→Bool
 | .unit=>false
 | .prod _ _=>false
 | .lst _=>false
 | _=>true
def okT (P:Program) (T:TypeId) (s:Sh):Bool:=szB P T s.size&&agB P T s.agg&&s.fixed&&s.isV
theorem loaded_ok {v:TV} {cs:List Value} (hf:v.1.fixed=true) (h:RepC P φ v.1 M cs v.2):RelV P M φ (loaded v) (mkV v.1 cs):=by
 obtain ⟨s,x⟩:=v
 cases s with
 | ref=>obtain ⟨rfl,h2⟩:=h;exact ⟨rfl,h2⟩
 | np=>simp only [RepC] at h;subst h;exact rfl
 | pt s =>
  simp only [Sh.fixed,Bool.and_eq_true] at hf
  obtain ⟨g,off,vs,rfl,h2,h3⟩:=h
  exact ⟨hf.1,g,off,vs,rfl,h2,h3⟩
 | mb=>exact ⟨rfl,cs,rfl,h⟩
 | fv=>exact ⟨[],by simp only [RepC] at h;rw [h];rfl,rfl⟩
 | _=>exact ⟨hf,cs,rfl,h⟩
theorem run_loadCellsAt {w:World} {g off:Nat} {cs:List Value} (hb:∀i v,cs[i]?=some v→w.cell? ⟨g,off+i,none⟩=some v):∀(n i:Nat) (acc:Array Value),i+n≤cs.length→(loadCellsFrom ⟨g,off,none⟩ i n acc).run P w=.ok (acc++(cs.drop i).take n) w:=by
 have addz:∀q,(⟨g,off,none⟩:Addr).add q=⟨g,off+q,none⟩:=fun q=>by
  unfold Addr.add
  split
  ·simp_all
  ·rfl
 intro n
 induction n with
 | zero=>intro i acc _;simp [loadCellsFrom]
 | succ n ih =>
  intro i acc h
  have hv:w.cell? ((⟨g,off,none⟩:Addr).add i)=some (cs[i]'(by omega)):=by
   rw [addz]
   exact hb _ _ (List.getElem?_eq_getElem _)
  simp only [loadCellsFrom,load,Sem.run_bind,Sem.run,hv,Result.andThen_ok]
  rw [ih (i+1) _ (by omega)]
  congr 1
  apply Array.ext'
  simp
  rw [List.drop_eq_getElem_cons (i:=i) (show i<cs.length by omega),List.take_succ_cons]
theorem run_loadAt {w:World} {T:TypeId} {g off:Nat} {s:Sh} {cs:List Value} (hT:okT P T s=true) (hl:cs.length=s.size) (hb:∀i v,cs[i]?=some v→w.cell? ⟨g,off+i,none⟩=some v) :
  (Instr.loadAt T (.pointer (some ⟨g,off,none⟩))).run P w=.ok (mkV s cs) w:=by
 simp only [okT,Bool.and_eq_true] at hT
 obtain ⟨⟨⟨h1,h2⟩,_⟩,h3⟩:=hT
 unfold mkV
 cases ha:s.agg with
 | true =>
  rw [ha] at h2
  have:=run_loadCellsAt (P:=P) hb s.size 0 #[] (by omega)
  simp only [List.drop_zero] at this
  rw [List.take_of_length_le (by omega)] at this
  simp [Instr.loadAt,Instr.sureAddr,loadVar,agB_ok h2,szB_ok h1,loadCells,this]
 | false =>
  rw [ha] at h2
  have hs:s.size=1:=by cases s<;>first|rfl|(simp [Sh.isV] at h3;done)|(simp [Sh.agg] at ha;done)
  obtain ⟨v,rfl⟩:∃v,cs=[v]:=by
   match cs,hl with
   | [v],_=>exact ⟨v,rfl⟩
   | [],hl=>rw [hs] at hl;cases hl
   | _::_::_,hl=>rw [hs] at hl;simp at hl
  have hc:=hb 0 v rfl
  rw [Nat.add_zero] at hc
  simp [Instr.loadAt,Instr.sureAddr,loadVar,agB_ok h2,load,Sem.run,hc]
end
def AllP:List Prop→Prop
 | []=>True
 | p::l=>p∧AllP l
theorem AllP.app:∀{a b:List Prop},AllP (a++b)→AllP a∧AllP b
 | [],b,h=>⟨trivial,h⟩
 | p::a,b,h=>by
  have:=AllP.app h.2
  exact ⟨⟨h.1,this.1⟩,this.2⟩
def rowOk:AItem→Path→Bool
 | .row _ _ _,[]=>false
 | .mp _ _ _ _,_=>false
 | _,_=>true
def setI:AItem→Path→TV→Option AItem
 | .var T s x,p,u=>match setP s x p u with
  | some r=>if r.1.fixed=true then some (.var T r.1 r.2) else none
  | none=>none
 | .row e s x,p,u=>match setP (.lst s) x p u with
  | some ⟨.lst t,y⟩=>if h:t=s then some (.row e s (h▸y)) else none
  | _=>none
 | .mp _ _ _ _,_,_=>none
section
variable {P:Program} {n0:Nat} {b:Base n0} {M:Fz} {φ:Nat→Value} {ξ:Nat→Option Nat} {H:AStore} {w:World} {ρ:AEnv}
theorem lst_path {s:Sh} {x:List s.ty} {p:Path} {v:TV} (hp:p≠[]) (hk:okP (.lst s) x p):∃k q,p=.i k::q∧k<x.length:=by
 cases p with
 | nil=>exact absurd rfl hp
 | cons t q=>cases t<;>simp only [okP] at hk;exact ⟨_,_,rfl,hk.1⟩
theorem set_len {s:Sh} {x:List s.ty} {k:Nat} {q:Path} {u:TV} {t:Sh} {y:List t.ty} (h:setP (.lst s) x (.i k::q) u=some ⟨.lst t,y⟩):y.length=x.length∧t=s:=by
 simp only [setP] at h
 split at h
 ·split at h
  ·simp only [injEq,Sigma.mk.injEq,Sh.lst.injEq] at h
   obtain ⟨rfl,h⟩:=h
   have:=eq_of_heq h
   subst this
   exact ⟨by simp,rfl⟩
  ·cases h
 ·cases h
theorem place_ok (hc:Core P b M φ ξ H w) {L:Nat} {it:AItem} (hl:look H L=some it) {p:Path} {v:TV} (hr:rowOk it p=true) (hg:getP it.tv.1 it.tv.2 p=some v) (hk:okP it.tv.1 it.tv.2 p) :
  ∃g c T pre cs post,blkOf (φ L)=some g∧ξ L=some g∧(∃fr,w.heap[g]?=some (.cells c T fr)∧(fr=(0,0)∨pre.length+cs.length≤fr.1))∧c.toList=pre++cs++post∧pre.length=offP it.tv.1 p∧RepC P φ v.1 M cs v.2 ∧
   ∀cs' u it' w',cs'.length=cs.length→RepC P φ u.1 M cs' u.2→setI it p u=some it'→(∀fr,w.heap[g]?=some (.cells c T fr)→w'.heap[g]?=some (.cells (pre++cs'++post).toArray T fr))→Held P M φ w' (φ L) (ξ L) it':=by
 have hh:=hc.items L it (look_mem hl)
 cases it with
 | mp T k v x=>simp [rowOk] at hr
 | var T s x =>
  obtain ⟨hf,g,c,h1,h2,h3,h4⟩:=hh
  obtain ⟨pre,cs,post,e1,e2,e3,e4⟩:=rep_get (.inl hf) h4 hg hk
  refine ⟨g,c,T,pre,cs,post,by rw [h1];rfl,h2,⟨_,h3,.inl rfl⟩,e1,e2,e3,fun cs' u it' w' hlen hu hs hw=>?_⟩
  simp only [setI] at hs
  split at hs
  ·rename_i r hr'
   split at hs
   ·rename_i hf'
    simp only [injEq] at hs
    subst hs
    exact ⟨hf',g,_,h1,h2,hw _ h3,by simpa using e4 cs' u r hlen hu hr'⟩
   ·cases hs
  ·cases hs
 | row e s x =>
  obtain ⟨hf,A,cap,h1,h2⟩:=hh
  have hp:p≠[]:=by rintro rfl;simp [rowOk] at hr
  obtain ⟨k,q,rfl,hlt⟩:=lst_path (v:=v) hp hk
  rcases h2 with ⟨_,rfl,_⟩|⟨g,c,h2,h3,h4,h5,h6,h7,h8⟩
  ·exact absurd hlt (Nat.not_lt_zero _)
  ·obtain ⟨fr,h4,hfr⟩:=h4
   obtain ⟨pre,cs,post,e1,e2,e3,e4⟩:=rep_get (s:=.lst s) (.inr ⟨s,rfl,hf⟩) h8 hg hk
   have hc':c.toList=pre++cs++(post++c.toList.drop (x.length*s.size)):=by
    rw [← List.append_assoc,← e1,List.take_append_drop]
   have hb:fr=(0,0)∨pre.length+cs.length≤fr.1:=by
    rcases hfr with q|⟨q1,q2⟩
    ·exact .inl q
    ·right
     have l2:=congrArg length e1
     simp only [List.length_append,List.length_take] at l2
     have:s.size=1:=by rw [q1];rfl
     rw [this,Nat.mul_one] at l2
     omega
   refine ⟨g,c,e,pre,cs,post++c.toList.drop (x.length*s.size),by rw [h1,h3];rfl,h2,⟨fr,h4,hb⟩,hc',e2,e3,fun cs' u it' w' hlen hu hs hw=>?_⟩
   simp only [setI] at hs
   split at hs
   ·rename_i t y hr'
    split at hs
    ·rename_i ht
     subst ht
     simp only [injEq] at hs
     subst hs
     have hyl:=(set_len hr').1
     refine ⟨hf,A,cap,by rw [h1];simp [hyl],.inr ⟨g,_,h2,h3,⟨fr,hw fr h4,by simpa [hyl] using hfr⟩,by simpa [hyl] using h5,h6,?_,?_⟩⟩
     ·have l1:=congrArg length hc'
      simp only [Array.length_toList,List.length_append] at l1
      simp only [List.size_toArray,List.length_append,hlen]
      omega
     ·have:=e4 cs' u _ hlen hu hr'
      have l2:=congrArg length e1
      simp only [List.length_append,List.length_take,Array.length_toList] at l2
      have l3:x.length*t.size≤c.size:=by rw [h7];exact Nat.mul_le_mul_right _ h5
      have:(pre++cs'++(post++c.toList.drop (x.length*t.size))).take (y.length*t.size)=pre++cs'++post:=by
       rw [← List.append_assoc,List.take_append_of_le_length (by simp only [List.length_append,hlen,hyl];omega),List.take_of_length_le (by simp only [List.length_append,hlen,hyl];omega)]
      simp only
      rw [this]
      assumption
    ·cases hs
   ·cases hs
theorem cell_of {w:World} {g:Nat} {c:Array Value} {T:TypeId} {fr:Nat×Nat} {pre cs post:List Value} (hw:w.heap[g]?=some (.cells c T fr)) (hc:c.toList=pre++cs++post):∀i v,cs[i]?=some v→w.cell? ⟨g,pre.length+i,none⟩=some v:=by
 intro i v hv
 have hi:=(List.getElem?_eq_some_iff.1 hv).1
 have:c[pre.length+i]?=some v:=by
  rw [← Array.getElem?_toList,hc,List.append_assoc,List.getElem?_append_right (by omega),List.getElem?_append_left (by omega)]
  simpa using hv
 simp [World.cell?,hw,this]
theorem ld_ptr (hc:Core P b M φ ξ H w) {L:Nat} {it:AItem} (hl:look H L=some it) {p:Path} {off:Nat} {v:TV} {T:TypeId} {u:Value} (hu:RelV P M φ (.ptr L p off) u) (hr:rowOk it p=true) (hg:getP it.tv.1 it.tv.2 p=some v) (hT:okT P T v.1=true) (ho:offP it.tv.1 p=off) (hk:okP it.tv.1 it.tv.2 p) :
  ∃x,(Instr.loadAt T u).run P w=.ok x w∧RelV P M φ (loaded v) x:=by
 obtain ⟨g,c,T',pre,cs,post,h1,_,h3,h4,h5,h6,_⟩:=place_ok hc hl hr hg hk
 obtain ⟨g',h7,rfl⟩:=hu
 obtain rfl:=inj (h1.symm.trans h7)
 obtain ⟨fr,h3,_⟩:=h3
 have hf:v.1.fixed=true:=by simp only [okT,Bool.and_eq_true] at hT;exact hT.1.2
 have:=run_loadAt (P:=P) hT (rep_len hf h6) (cell_of h3 h4)
 rw [h5,ho] at this
 exact ⟨_,this,loaded_ok hf h6⟩
theorem cl_cells {cs:List Value} {g off:Nat} (ho:Over M w) (h:Cl M (some ⟨g,off,none⟩) cs):∀i v,cs[i]?=some v→w.cell? ⟨g,off+i,none⟩=some v:=by
 intro i v hv
 have hi:=(List.getElem?_eq_some_iff.1 hv).1
 obtain ⟨g',o',c,e1,e2,e3⟩:=h i hi
 simp only [injEq,Addr.mk.injEq,and_true] at e1
 obtain ⟨rfl,rfl⟩:=e1
 obtain ⟨t,fr,e4⟩:=ho _ _ e2
 rw [hv] at e3
 simp [World.cell?,e4,e3]
theorem ld_fp (hc:Core P b M φ ξ H w) {s:Sh} {x:s.ty} {T:TypeId} {u:Value} (hu:RelV P M φ (.fp s x) u) (hT:okT P T s=true):∃y,(Instr.loadAt T u).run P w=.ok y w∧RelV P M φ (loaded ⟨s,x⟩) y:=by
 obtain ⟨hf,g,off,cs,rfl,h1,h2⟩:=hu
 exact ⟨_,run_loadAt hT (rep_len hf h2) (cl_cells hc.over h1),loaded_ok (v:=⟨s,x⟩) hf h2⟩
def fldB (P:Program) (T f:Nat):Option (Nat×Nat×Nat):=match P.underlying T with
 | some (.struct fs)=>match fs[f]? with
  | some F=>some (fs.size,F.type,F.offset)
  | none=>none
 | _=>none
theorem fldB_ok {T f m ft fo:Nat} (h:fldB P T f=some (m,ft,fo)):∃fs F,P.underlying T=some (.struct fs)∧fs[f]?=some F∧F.type=ft∧F.offset=fo:=by
 unfold fldB at h
 split at h
 ·rename_i fs hu
  split at h
  ·rename_i F hF
   simp only [injEq,Prod.mk.injEq] at h
   exact ⟨fs,F,hu,hF,h.2.1,h.2.2⟩
  ·cases h
 ·cases h
def noI:Path→Bool
 | []=>true
 | .i _::_=>false
 | _::p=>noI p
theorem okP_noI:∀{s:Sh} {x:s.ty} {p:Path} {v:TV},noI p=true→getP s x p=some v→okP s x p:=by
 intro s
 induction s with
 | st s ih =>
  intro x p v hn h
  cases p with
  | nil=>simp [okP]
  | cons q p=>cases q<;>simp only [getP,reduceCtorEq] at h;exact ih hn h
 | prod a b iha ihb =>
  intro x p v hn h
  cases p with
  | nil=>simp [okP]
  | cons q p =>
   cases q<;>simp only [getP,reduceCtorEq] at h
   ·exact iha hn h
   ·exact ihb hn h
 | arr n s ih =>
  intro x p v hn h
  cases p with
  | nil=>simp [okP]
  | cons q p=>cases q<;>simp_all [getP,noI]
 | lst s ih =>
  intro x p v hn h
  cases p with
  | nil=>simp [okP]
  | cons q p=>cases q<;>simp_all [getP,noI]
 | _ =>
  intro x p v hn h
  cases p with
  | nil=>simp [okP]
  | cons q p=>simp [getP] at h
theorem mkV_cells {s:Sh} {cs:List Value} (hl:cs.length=s.size) (hv:s.isV=true) (h1:∀v∈cs,v.oneCell'=true):(mkV s cs).cells=cs.toArray:=by
 unfold mkV
 cases ha:s.agg with
 | true=>rfl
 | false =>
  have hs:s.size=1:=by cases s<;>first|rfl|(simp [Sh.isV] at hv;done)|(simp [Sh.agg] at ha;done)
  match cs,hl with
  | [v],_ =>
   have:=h1 v (List.mem_singleton.2 rfl)
   cases v<;>first|rfl|(simp [Value.oneCell'] at this;done)
  | [],hl=>rw [hs] at hl;cases hl
  | _::_::_,hl=>rw [hs] at hl;simp at hl
theorem run_part {T:TypeId} {s:Sh} {pre cs post:List Value} (hT:okT P T s=true) (hl:cs.length=s.size) (w:World):(part T (pre++cs++post).toArray pre.length).run P w=.ok (mkV s cs) w:=by
 simp only [okT,Bool.and_eq_true] at hT
 obtain ⟨⟨⟨h1,h2⟩,_⟩,h3⟩:=hT
 unfold mkV
 cases ha:s.agg with
 | true =>
  rw [ha] at h2
  simp only [part,Sem.run_bind,agB_ok h2,szB_ok h1,Result.andThen_ok,if_true,Sem.run_pure]
  congr 2
  apply Array.ext'
  simp [← hl]
 | false =>
  rw [ha] at h2
  have hs:s.size=1:=by cases s<;>first|rfl|(simp [Sh.isV] at h3;done)|(simp [Sh.agg] at ha;done)
  obtain ⟨v,rfl⟩:∃v,cs=[v]:=by
   match cs,hl with
   | [v],_=>exact ⟨v,rfl⟩
   | [],hl=>rw [hs] at hl;cases hl
   | _::_::_,hl=>rw [hs] at hl;simp at hl
  simp [part,agB_ok h2]
theorem fd_val {T f m ft fo:Nat} {s:Sh} {x:s.ty} {v:TV} {u:Value} (hu:RelV P M φ (.v (.st s) x) u) (hF:fldB P T f=some (m,ft,fo)) (hg:getP (.st s) x (fPath m f)=some v) (hn:noI (fPath m f)=true) (ho:Nat.beq (offP (.st s) (fPath m f)) fo=true) (hT:okT P ft v.1=true) (w:World) :
  ∃y,(Instr.field T u f).run P w=.ok y w∧RelV P M φ (loaded v) y:=by
 obtain ⟨fs,F,h1,h2,rfl,rfl⟩:=fldB_ok hF
 obtain ⟨hf,cs,rfl,hr⟩:=hu
 obtain ⟨pre,c,post,rfl,e2,e3,_⟩:=rep_get (.inl hf) hr hg (okP_noI hn hg)
 have hf':=getP_fixed hf hg
 refine ⟨mkV v.1 c,?_,loaded_ok hf' e3⟩
 have:=run_part (P:=P) (pre:=pre) (post:=post) hT (rep_len hf' e3) w
 rw [e2,Nat.eq_of_beq_eq_true ho] at this
 have e:mkV (.st s) (pre++c++post)=.agg (pre++c++post).toArray:=rfl
 rw [e]
 simp [Instr.field,run_underlying h1,h2,asAgg]
 simpa using this
theorem run_fieldPlace {a:Addr} {F:Field} {n:Nat} (hn:∀w,(sizeOf F.type).run P w=.ok n w) (h0:n≠0) (hs:a.spot=none) (w:World):(fieldPlace a F).run P w=.ok ⟨a.block,a.off+F.offset,none⟩ w:=by
 obtain ⟨g,o,sp⟩:=a
 simp only at hs
 subst hs
 have:(⟨g,o,none⟩:Addr).add F.offset=⟨g,o+F.offset,none⟩:=by
  unfold Addr.add
  split
  ·simp_all
  ·rfl
 simp [fieldPlace,hn,h0,this]
theorem fa_ptr {T f m ft fo n:Nat} {L:Nat} {p:Path} {off:Nat} {u:Value} (hu:RelV P M φ (.ptr L p off) u) (hF:fldB P T f=some (m,ft,fo)) (hn:szB P ft n=true) (h0:Nat.beq n 0=false) (w:World) (q:Path) :
  ∃y,(Instr.fieldAt T u f).run P w=.ok y w∧RelV P M φ (.ptr L q (off+fo)) y:=by
 obtain ⟨fs,F,h1,h2,rfl,rfl⟩:=fldB_ok hF
 obtain ⟨g,h3,rfl⟩:=hu
 refine ⟨_,?_,g,h3,rfl⟩
 have h0':n≠0:=fun e=>by subst e;simp at h0
 simp [Instr.fieldAt,run_underlying h1,h2,Instr.sureAddr,run_fieldPlace (szB_ok hn) h0']
theorem fa_fp {T f m ft fo n:Nat} {s:Sh} {x:s.ty} {v:TV} {u:Value} (hu:RelV P M φ (.fp s x) u) (hF:fldB P T f=some (m,ft,fo)) (hn':szB P ft n=true) (h0:Nat.beq n 0=false) (hg:getP s x (fPath m f)=some v) (hn:noI (fPath m f)=true) (ho:Nat.beq (offP s (fPath m f)) fo=true) (w:World) :
  ∃y,(Instr.fieldAt T u f).run P w=.ok y w∧RelV P M φ (.fp v.1 v.2) y:=by
 obtain ⟨fs,F,h1,h2,rfl,rfl⟩:=fldB_ok hF
 obtain ⟨hf,g,off,cs,rfl,h3,h4⟩:=hu
 obtain ⟨pre,c,post,rfl,e2,e3,_⟩:=rep_get (.inl hf) h4 hg (okP_noI hn hg)
 have h0':n≠0:=fun e=>by subst e;simp at h0
 have e5:=Nat.eq_of_beq_eq_true ho
 refine ⟨.pointer (some ⟨g,off+F.offset,none⟩),?_,getP_fixed hf hg,g,off+F.offset,c,rfl,?_,e3⟩
 ·simp [Instr.fieldAt,run_underlying h1,h2,Instr.sureAddr,run_fieldPlace (szB_ok hn') h0']
 ·intro q hq
  obtain ⟨b',o',c',k1,k2,k3⟩:=h3 (pre.length+q) (by simp only [List.length_append];omega)
  simp only [injEq,Addr.mk.injEq,and_true] at k1
  obtain ⟨rfl,rfl⟩:=k1
  refine ⟨_,_,c',rfl,k2,?_⟩
  rw [List.append_assoc,List.getElem?_append_right (by omega),List.getElem?_append_left (by omega)] at k3
  rw [← e5,← e2,Nat.add_assoc,k3]
  congr 1
  omega
end
section
variable {P:Program} {n0:Nat} {b:Base n0} {M:Fz} {φ:Nat→Value} {ξ:Nat→Option Nat} {H:AStore} {w:World} {ρ:AEnv}
theorem addz (g off q:Nat):(⟨g,off,none⟩:Addr).add q=⟨g,off+q,none⟩:=by
 unfold Addr.add
 split
 ·simp_all
 ·rfl
def arrB (P:Program) (T:Nat):Option (Nat×Nat):=match P.underlying T with
 | some (.array n e)=>some (n,e)
 | _=>none
def slB (P:Program) (T:Nat):Option Nat:=match P.underlying T with
 | some (.slice e)=>some e
 | _=>none
theorem arrB_ok {T n e:Nat} (h:arrB P T=some (n,e)):P.underlying T=some (.array n e):=by
 unfold arrB at h
 split at h
 ·simp only [injEq,Prod.mk.injEq] at h
  obtain ⟨rfl,rfl⟩:=h
  assumption
 ·cases h
theorem slB_ok {T e:Nat} (h:slB P T=some e):P.underlying T=some (.slice e):=by
 unfold slB at h
 split at h
 ·simp only [injEq] at h
  subst h
  assumption
 ·cases h
theorem run_indexArr {T e:Nat} {len sz:Nat} {k:IntKind} {n:Int} {g off:Nat} (h:arrB P T=some (len,e)) (hs:szB P e sz=true) (hn:0≤n∧n<len) (w:World) :
  (Instr.indexAt T (.pointer (some ⟨g,off,none⟩)) (.int k n)).run P w=.ok (.pointer (some ⟨g,off+n.toNat*sz,none⟩)) w:=by
 have hu:=arrB_ok h
 have:¬len≤n.toNat:=by omega
 simp [Instr.indexAt,asIntOf,run_underlying hu,Instr.sureAddr,hn,szB_ok hs,addz]
theorem run_indexSl {T e:Nat} {len cap sz:Nat} {k:IntKind} {n:Int} {g off:Nat} (h:slB P T=some e) (hs:szB P e sz=true) (hn:0≤n∧n<len) (w:World) :
  (Instr.indexAt T (.slice (some ⟨g,off,none⟩) len cap) (.int k n)).run P w=.ok (.pointer (some ⟨g,off+n.toNat*sz,none⟩)) w:=by
 have hu:=slB_ok h
 simp [Instr.indexAt,asIntOf,run_underlying hu,hn,szB_ok hs,addz]
theorem ia_ptr {T e:Nat} {len sz L off:Nat} {p q:Path} {k:IntKind} {n:Int} {u:Value} (hu:RelV P M φ (.ptr L p off) u) (h:arrB P T=some (len,e)) (hs:szB P e sz=true) (hn:0≤n∧n<len) (w:World) :
  ∃y,(Instr.indexAt T u (.int k n)).run P w=.ok y w∧RelV P M φ (.ptr L q (off+n.toNat*sz)) y:=by
 obtain ⟨g,h1,rfl⟩:=hu
 exact ⟨_,run_indexArr h hs hn w,g,h1,rfl⟩
theorem rep_elem {s:Sh} {xs:List s.ty} {cs:List Value} {q:Nat} (hf:s.fixed=true) (h:RepL (RepC P φ s M) cs xs) (hq:q<xs.length):RepC P φ s M ((cs.drop (q*s.size)).take s.size) (xs.getD q s.dflt)∧q*s.size+s.size≤cs.length:=by
 obtain ⟨pre,c,post,rfl,e2,h3,_⟩:=RepL_split (fun c y hc=>rep_len hf hc) (d:=s.dflt) h hq
 have hl:=rep_len hf h3
 refine ⟨?_,by simp only [List.length_append];omega⟩
 rw [← e2,← hl,List.append_assoc,List.drop_left,List.take_left]
 exact h3
theorem cl_drop {cs:List Value} {g off q n:Nat} (h:Cl M (some ⟨g,off,none⟩) cs):Cl M (some ⟨g,off+q,none⟩) ((cs.drop q).take n):=by
 intro j hj
 simp only [List.length_take,List.length_drop] at hj
 obtain ⟨b',o',c',k1,k2,k3⟩:=h (q+j) (by omega)
 simp only [injEq,Addr.mk.injEq,and_true] at k1
 obtain ⟨rfl,rfl⟩:=k1
 refine ⟨_,_,c',rfl,k2,?_⟩
 rw [Nat.add_assoc,k3,List.getElem?_take_of_lt (by omega),List.getElem?_drop]
theorem ia_fp {T e:Nat} {len m:Nat} {s:Sh} {x:List s.ty} {k:IntKind} {n:Int} {u:Value} (hu:RelV P M φ (.fp (.arr m s) x) u) (h:arrB P T=some (len,e)) (hm:Nat.beq len m=true) (hs:szB P e s.size=true) (hn:0≤n∧n<len) (w:World) :
  ∃y,(Instr.indexAt T u (.int k n)).run P w=.ok y w∧RelV P M φ (.fp s (x.getD n.toNat s.dflt)) y:=by
 obtain ⟨hf,g,off,cs,rfl,h1,h2,h3⟩:=hu
 have hm:=Nat.eq_of_beq_eq_true hm
 have hf':s.fixed=true:=hf
 obtain ⟨h4,_⟩:=rep_elem (q:=n.toNat) hf' h3 (by omega)
 exact ⟨_,run_indexArr h hs hn w,hf',g,_,_,rfl,cl_drop h1,h4⟩
theorem ia_sl {T e:Nat} {s:Sh} {xs:List s.ty} {k:IntKind} {n:Int} {u:Value} (hu:RelV P M φ (.v (.sl s) xs) u) (h:slB P T=some e) (hs:szB P e s.size=true) (h0:Nat.beq s.size 0=false) (hn:0≤n∧n<xs.length) (w:World) :
  ∃y,(Instr.indexAt T u (.int k n)).run P w=.ok y w∧RelV P M φ (.fp s (xs.getD n.toNat s.dflt)) y:=by
 obtain ⟨hf,cs,rfl,A,len,cap,vs,rfl,h1,h2,h3,h4⟩:=hu
 have hf':s.fixed=true:=by simp only [Sh.fixed,Bool.and_eq_true] at hf;exact hf.1
 obtain ⟨h5,h6⟩:=rep_elem (q:=n.toNat) hf' h4 (by omega)
 have h00:s.size≠0:=fun e=>by rw [e] at h0;simp at h0
 obtain ⟨g,off,c,rfl,_⟩:=h3 (n.toNat*s.size) (by omega)
 exact ⟨_,run_indexSl h hs (by omega) w,hf',g,_,_,rfl,cl_drop h3,h5⟩
theorem ia_row (hc:Core P b M φ ξ H w) {T e L:Nat} {T':Nat} {s:Sh} {xs:List s.ty} {k:IntKind} {n:Int} {u:Value} (hu:RelV P M φ (.row L) u) (hl:look H L=some (.row T' s xs)) (h:slB P T=some e) (hs:szB P e s.size=true) (hn:0≤n∧n<xs.length) :
  ∃y,(Instr.indexAt T u (.int k n)).run P w=.ok y w∧RelV P M φ (.ptr L [.i n.toNat] (n.toNat*s.size)) y:=by
 obtain ⟨rfl,_⟩:=hu
 obtain ⟨hf,A,cap,h1,h2⟩:=hc.items L _ (look_mem hl)
 rcases h2 with ⟨_,rfl,_⟩|⟨g,c,h2,rfl,_⟩
 ·exact absurd hn.2 (by simp;omega)
 ·rw [h1]
  refine ⟨_,run_indexSl h hs hn w,g,by rw [h1];rfl,by rw [Nat.zero_add]⟩
theorem ix_arr {T e:Nat} {len m:Nat} {s:Sh} {x:List s.ty} {k:IntKind} {n:Int} {u:Value} (hu:RelV P M φ (.v (.arr m s) x) u) (h:arrB P T=some (len,e)) (hm:Nat.beq len m=true) (hT:okT P e s=true) (hn:0≤n∧n<len) (w:World) :
  ∃y,(Instr.index T u (.int k n)).run P w=.ok y w∧RelV P M φ (loaded ⟨s,x.getD n.toNat s.dflt⟩) y:=by
 obtain ⟨hf,cs,rfl,h1,h2⟩:=hu
 have hm:=Nat.eq_of_beq_eq_true hm
 have hf':s.fixed=true:=hf
 obtain ⟨pre,c,post,rfl,e2,h3,_⟩:=RepL_split (fun c y hc=>rep_len hf' hc) (d:=s.dflt) (j:=n.toNat) h2 (by omega)
 have hsz:szB P e s.size=true:=by simp only [okT,Bool.and_eq_true] at hT;exact hT.1.1.1
 refine ⟨mkV s c,?_,loaded_ok (v:=⟨s,_⟩) hf' h3⟩
 have:=run_part (P:=P) (pre:=pre) (post:=post) hT (rep_len hf' h3) w
 rw [e2] at this
 have e:mkV (.arr m s) (pre++c++post)=.agg (pre++c++post).toArray:=rfl
 rw [e]
 simp only [Instr.index,asIntOf,Sem.run_bind,Sem.run_pure,Result.andThen_ok,run_underlying (arrB_ok h),if_pos hn,szB_ok hsz,this]
theorem ix_str {T:Nat} {l:Str} {k:IntKind} {n:Int} {u:Value} (hu:RelV P M φ (.v .str l) u) (h:P.underlying T=some .string) (hn:0≤n∧n<l.length) (w:World) :
  ∃y,(Instr.index T u (.int k n)).run P w=.ok y w∧RelV P M φ (.v (.int .u8) (((l.getD n.toNat 0).toNat:Nat):Int)) y:=by
 obtain ⟨_,cs,rfl,rfl,hl⟩:=hu
 have hlt:n.toNat<l.length:=by omega
 have hb:(bs l)[n.toNat]?=some (l.getD n.toNat 0):=by
  have:n.toNat<(bs l).size:=by rw [bs_size];exact hlt
  rw [getElem?_pos (bs l) n.toNat this]
  congr 1
  simp only [bs,List.getD_eq_getElem?_getD,List.getElem?_eq_getElem hlt,Option.getD_some]
  exact (List.getElem_toArray _)
 have e:mkV .str [.string (bs l)]=.string (bs l):=rfl
 refine ⟨_,?_,rfl,_,rfl,rfl,?_⟩
 ·rw [e]
  simp [Instr.index,asIntOf,run_underlying h,hn.1,hb]
  rfl
 ·have:=(l.getD n.toNat 0).toNat_lt
  constructor
  ·show (0:Int)≤_;omega
  ·show _≤(255:Int);omega
def intA (op:BinOp) (k:IntKind) (x y:Int):Option (Int×List Prop) :=
 match op with
 | .add=>some (k.wrap (x+y),[])
 | .sub=>some (k.wrap (x-y),[])
 | .mul=>some (k.wrap (x*y),[])
 | .quo=>some (k.wrap (x.tdiv y),[y≠0])
 | .rem=>some (x.tmod y,[y≠0])
 | .and=>some (bits .and k x y,[])
 | .or=>some (bits .or k x y,[])
 | .xor=>some (bits .xor k x y,[])
 | .andNot=>some (bits .andNot k x y,[])
 | _=>none
def cmpA (op:BinOp) (x y:Int):Option Bool :=
 match op with
 | .eql=>some (x==y)
 | .neq=>some (x != y)
 | .lss=>some (decide (x<y))
 | .leq=>some (decide (x≤y))
 | .gtr=>some (decide (x>y))
 | .geq=>some (decide (x≥y))
 | _=>none
def eqN (op:BinOp) (t:TypeId) (x y:Operand) (a b:Value):Sem Value:=do eqGuard op t x y a b;binOp op t a b
theorem has_zero (k:IntKind):k.min≤0∧0≤k.max:=by cases k<;>decide
theorem has_tmod {k:IntKind} {x y:Int} (h:k.has x):k.has (x.tmod y):=by
 have hz:=has_zero k
 obtain ⟨h1,h2⟩:=h
 rcases Int.le_total 0 x with h0|h0
 ·have a:=Int.tmod_nonneg (a:=x) y h0
  have b:x.tmod y≤x:=by
   obtain ⟨m,rfl⟩:=Int.eq_ofNat_of_zero_le h0
   rcases Int.le_total 0 y with hy|hy
   ·obtain ⟨n,rfl⟩:=Int.eq_ofNat_of_zero_le hy
    rw [← Int.ofNat_tmod]
    exact Int.ofNat_le.2 (Nat.mod_le _ _)
   ·obtain ⟨n,hn⟩:=Int.eq_ofNat_of_zero_le (show 0≤-y by omega)
    obtain rfl:y=-(n:Int):=by omega
    rw [Int.tmod_neg,← Int.ofNat_tmod]
    exact Int.ofNat_le.2 (Nat.mod_le _ _)
  exact ⟨by omega,by omega⟩
 ·obtain ⟨m,hm⟩:=Int.eq_ofNat_of_zero_le (show 0≤-x by omega)
  obtain rfl:x=-(m:Int):=by omega
  have c:-(m:Int)≤(-(m:Int)).tmod y∧(-(m:Int)).tmod y≤0:=by
   rw [Int.neg_tmod]
   rcases Int.le_total 0 y with hy|hy
   ·obtain ⟨n,rfl⟩:=Int.eq_ofNat_of_zero_le hy
    rw [← Int.ofNat_tmod]
    have:=Nat.mod_le m n
    omega
   ·obtain ⟨n,hn⟩:=Int.eq_ofNat_of_zero_le (show 0≤-y by omega)
    obtain rfl:y=-(n:Int):=by omega
    rw [Int.tmod_neg,← Int.ofNat_tmod]
    have:=Nat.mod_le m n
    omega
  exact ⟨by omega,by omega⟩
theorem has_bits (op:BinOp) (k:IntKind) (x y:Int):k.has (bits op k x y):=has_wrap _ _
theorem run_intA {op:BinOp} {t:TypeId} {x y:Operand} {k:IntKind} {m n r:Int} {C:List Prop} (h:intA op k m n=some (r,C)) (hC:AllP C) (hm:k.has m) (w:World):(eqN op t x y (.int k m) (.int k n)).run P w=.ok (.int k r) w∧k.has r:=by
 unfold intA at h
 cases op<;>simp only [injEq,Prod.mk.injEq,reduceCtorEq] at h
 all_goals obtain ⟨rfl,rfl⟩:=h
 all_goals refine ⟨?_,by first|exact has_wrap _ _|exact has_bits _ _ _ _|exact has_tmod hm⟩
 all_goals first
  | (have h0:n≠0:=hC.1;simp [eqN,eqGuard,binOp,Op.intDiv,h0];done)
  | (simp [eqN,eqGuard,binOp,Op.intArith];done)
  | (simp [eqN,eqGuard,binOp,intBits_and,intBits_or,intBits_xor,intBits_andNot];done)
theorem run_cmpA {op:BinOp} {t:TypeId} {x y:Operand} {k:IntKind} {m n:Int} {r:Bool} (h:cmpA op m n=some r) (w:World):(eqN op t x y (.int k m) (.int k n)).run P w=.ok (.bool r) w:=by
 unfold cmpA at h
 cases op<;>simp only [injEq,reduceCtorEq] at h
 all_goals subst h
 all_goals simp [eqN,eqGuard,binOp,Op.intCmp,bne]
theorem has_shr {k:IntKind} {x:Int} {j:Nat} (h:k.has x):k.has (x.fdiv (2^j)):=by
 have hz:=has_zero k
 obtain ⟨h1,h2⟩:=h
 have hp:(0:Int)<2^j:=Int.pow_pos (by decide)
 have e:x.fdiv (2^j)=x/2^j:=Int.fdiv_eq_ediv_of_nonneg _ (by omega)
 rw [e]
 have a:=Int.ediv_mul_le x (Int.ne_of_gt hp)
 rcases Int.le_total 0 x with h0|h0
 ·have b:x/2^j≤x:=Int.ediv_le_self _ h0
  have c:=Int.ediv_nonneg h0 (Int.le_of_lt hp)
  exact ⟨by omega,by omega⟩
 ·have b:x/2^j≤0:=by
   have:=Int.ediv_le_ediv hp h0
   simpa using this
  have c:x≤x/2^j:=by
   rw [Int.le_ediv_iff_mul_le hp]
   have:x*2^j≤x*1:=Int.mul_le_mul_of_nonpos_left h0 (by omega)
   omega
  exact ⟨by omega,by omega⟩
def shA (op:BinOp) (k:IntKind) (x y:Int):Option Int :=
 match op with
 | .shl=>some (k.wrap (x*2^min y.toNat k.bits))
 | .shr=>some (x.fdiv (2^min y.toNat k.bits))
 | _=>none
theorem run_shA {op:BinOp} {t:TypeId} {x y:Operand} {k j:IntKind} {m n r:Int} (h:shA op k m n=some r) (hn:0≤n) (hm:k.has m) (w:World):(eqN op t x y (.int k m) (.int j n)).run P w=.ok (.int k r) w∧k.has r:=by
 have h0:¬n<0:=by omega
 unfold shA at h
 cases op<;>simp only [injEq,reduceCtorEq] at h
 all_goals subst h
 ·exact ⟨by simp [eqN,eqGuard,binOp,Op.shift,h0],has_wrap _ _⟩
 ·exact ⟨by simp [eqN,eqGuard,binOp,Op.shift,h0],has_shr hm⟩
end
def Sh.cmpB:Sh→Bool
 | .int _=>true
 | .bool=>true
 | .str=>true
 | .unit=>true
 | .prod a b=>a.cmpB&&b.cmpB
 | .st s=>s.cmpB
 | .arr _ s=>s.cmpB
 | _=>false
def Sh.lks:Sh→List Lk
 | .int k=>[.i k]
 | .bool=>[.b]
 | .str=>[.s]
 | .prod a b=>a.lks++b.lks
 | .st s=>s.lks
 | .arr n s=>(replicate n s.lks).flatten
 | _=>[]
def Sh.lits:(s:Sh)→s.ty→List Lit
 | .int k,x=>[.int k x]
 | .bool,x=>[.bool x]
 | .str,x=>[.string x]
 | .prod a b,x=>a.lits x.1++b.lits x.2
 | .st s,x=>s.lits x
 | .arr _ s,x=>List.flatMap s.lits x
 | _,_=>[]
def eqL {α:Type} (f:α→α→Bool):List α→List α→Bool
 | [],[]=>true
 | x::l,y::r=>f x y&&eqL f l r
 | _,_=>false
def Sh.eqb:(s:Sh)→s.ty→s.ty→Bool
 | .int _,x,y=>(show Int from x)==(show Int from y)
 | .bool,x,y=>(show Bool from x)==(show Bool from y)
 | .str,x,y=>(show Str from x)==(show Str from y)
 | .prod a b,x,y=>a.eqb x.1 y.1&&b.eqb x.2 y.2
 | .st s,x,y=>s.eqb x y
 | .arr _ s,x,y=>eqL s.eqb x y
 | _,_,_=>true
theorem eqL_iff {α:Type} {f:α→α→Bool} (h:∀x y,f x y=true↔x=y):∀l r:List α,eqL f l r=true↔l=r
 | [],[]=>by simp [eqL]
 | x::l,[]=>by simp [eqL]
 | [],y::r=>by simp [eqL]
 | x::l,y::r=>by simp [eqL,h,eqL_iff h l r]
theorem eqb_iff:∀{s:Sh},s.cmpB=true→∀x y:s.ty,s.eqb x y=true↔x=y:=by
 intro s
 induction s with
 | int k=>intro _ x y;simp [Sh.eqb]
 | bool=>intro _ x y;simp [Sh.eqb]
 | str=>intro _ x y;simp [Sh.eqb]
 | unit=>intro _ x y;simp [Sh.eqb]
 | prod a b iha ihb =>
  intro h x y
  simp only [Sh.cmpB,Bool.and_eq_true] at h
  obtain ⟨x1,x2⟩:=x
  obtain ⟨y1,y2⟩:=y
  simp only [Sh.eqb,Bool.and_eq_true,iha h.1,ihb h.2,Prod.mk.injEq]
 | st s ih=>intro h x y;exact ih h x y
 | arr n s ih=>intro h x y;exact eqL_iff (ih h) x y
 | _=>intro h;simp [Sh.cmpB] at h
theorem lits_len {P:Program} {φ:Nat→Value} {M:Fz}:∀{s:Sh} {cs:List Value} {x:s.ty},s.cmpB=true→RepC P φ s M cs x→(s.lits x).length=s.size:=by
 intro s
 induction s with
 | int k=>intro cs x _ _;rfl
 | bool=>intro cs x _ _;rfl
 | str=>intro cs x _ _;rfl
 | unit=>intro cs x _ _;rfl
 | prod a b iha ihb =>
  intro cs x h hr
  simp only [Sh.cmpB,Bool.and_eq_true] at h
  obtain ⟨c1,c2,_,h1,h2⟩:=hr
  simp [Sh.lits,Sh.size,iha h.1 h1,ihb h.2 h2]
 | st s ih=>intro cs x h hr;exact ih h hr
 | arr n s ih =>
  intro cs x h hr
  obtain ⟨hn,hr⟩:=hr
  have key:∀(l:List s.ty) (cs:List Value),RepL (RepC P φ s M) cs l→(List.flatMap s.lits l).length=l.length*s.size:=by
   intro l
   induction l with
   | nil=>intro cs _;simp
   | cons y l ihl =>
    intro cs hr
    obtain ⟨c,r,_,h1,h2⟩:=hr
    simp only [List.flatMap_cons,List.length_append,List.length_cons]
    rw [ih h h1,ihl _ h2,Nat.succ_mul,Nat.add_comm]
  show (List.flatMap s.lits x).length=n*s.size
  rw [key x cs hr,hn]
 | _=>intro cs x h;simp [Sh.cmpB] at h
theorem lits_inj {P:Program} {φ:Nat→Value} {M:Fz}:∀{s:Sh} {cs ds:List Value} {x y:s.ty},s.cmpB=true→RepC P φ s M cs x→RepC P φ s M ds y→(s.lits x=s.lits y↔x=y):=by
 intro s
 induction s with
 | int k=>intro cs ds x y _ _ _;simp [Sh.lits]
 | bool=>intro cs ds x y _ _ _;simp [Sh.lits]
 | str=>intro cs ds x y _ _ _;simp [Sh.lits]
 | unit=>intro cs ds x y _ _ _;simp [Sh.lits]
 | prod a b iha ihb =>
  intro cs ds x y h hx hy
  simp only [Sh.cmpB,Bool.and_eq_true] at h
  obtain ⟨c1,c2,_,h1,h2⟩:=hx
  obtain ⟨d1,d2,_,g1,g2⟩:=hy
  obtain ⟨x1,x2⟩:=x
  obtain ⟨y1,y2⟩:=y
  constructor
  ·intro e
   obtain ⟨e1,e2⟩:=List.append_inj e (by rw [lits_len h.1 h1,lits_len h.1 g1])
   exact Prod.ext ((iha h.1 h1 g1).1 e1) ((ihb h.2 h2 g2).1 e2)
  ·intro e;rw [e]
 | st s ih=>intro cs ds x y h hx hy;exact ih h hx hy
 | arr n s ih =>
  intro cs ds x y h hx hy
  obtain ⟨hn,hx⟩:=hx
  obtain ⟨hm,hy⟩:=hy
  have key:∀(l r:List s.ty) (cs ds:List Value),RepL (RepC P φ s M) cs l→RepL (RepC P φ s M) ds r→l.length=r.length→List.flatMap s.lits l=List.flatMap s.lits r→l=r:=by
   intro l
   induction l with
   | nil=>intro r cs ds _ _ hl _;exact (List.length_eq_zero_iff.1 hl.symm).symm
   | cons u l ihl =>
    intro r cs ds hx hy hl e
    cases r with
    | nil=>simp at hl
    | cons v r =>
     obtain ⟨c,c',_,h1,h2⟩:=hx
     obtain ⟨d,d',_,g1,g2⟩:=hy
     simp only [List.flatMap_cons] at e
     obtain ⟨e1,e2⟩:=List.append_inj e (by rw [lits_len (s:=s) h h1,lits_len (s:=s) h g1])
     rw [(ih h h1 g1).1 e1,ihl r _ _ h2 g2 (by simpa using hl) e2]
  constructor
  ·intro e;exact key x y cs ds hx hy (by rw [hn,hm]) e
  ·intro e;rw [e]
 | _=>intro cs ds x y h;simp [Sh.cmpB] at h
theorem rep_fits {P:Program} {φ:Nat→Value} {M:Fz}:∀{s:Sh} {cs:List Value} {x:s.ty},s.cmpB=true→RepC P φ s M cs x→fits s.lks cs=some (s.lits x):=by
 intro s
 induction s with
 | int k =>
  intro cs x _ h
  obtain ⟨rfl,h⟩:=h
  have:(Lit.int k x).wf=true:=by simp only [Lit.wf,Bool.and_eq_true,decide_eq_true_eq];exact h
  simp [Sh.lks,Sh.lits,fits,Lk.lit,this]
 | bool=>intro cs x _ h;simp only [RepC] at h;subst h;simp [Sh.lks,Sh.lits,fits,Lk.lit]
 | str =>
  intro cs x _ h
  obtain ⟨rfl,h⟩:=h
  have:(bs x).size≤maxLen:=by rw [bs_size];exact h
  simp [Sh.lks,Sh.lits,fits,Lk.lit,this]
  simp [bs]
 | unit=>intro cs x _ h;simp only [RepC] at h;subst h;rfl
 | prod a b iha ihb =>
  intro cs x h hr
  simp only [Sh.cmpB,Bool.and_eq_true] at h
  obtain ⟨c1,c2,rfl,h1,h2⟩:=hr
  exact fits_append (iha h.1 h1) (ihb h.2 h2)
 | st s ih=>intro cs x h hr;exact ih h hr
 | arr n s ih =>
  intro cs x h hr
  obtain ⟨hn,hr⟩:=hr
  have key:∀(l:List s.ty) (cs:List Value),RepL (RepC P φ s M) cs l→fits (replicate l.length s.lks).flatten cs=some (List.flatMap s.lits l):=by
   intro l
   induction l with
   | nil=>intro cs e;simp only [RepL] at e;subst e;rfl
   | cons y l ihl =>
    intro cs hr
    obtain ⟨c,r,rfl,h1,h2⟩:=hr
    simp only [List.length_cons,List.replicate_succ,List.flatten_cons,List.flatMap_cons]
    exact fits_append (ih h h1) (ihl _ h2)
  have:=key x cs hr
  rw [hn] at this
  exact this
 | _=>intro cs x h;simp [Sh.cmpB] at h
def eqTB (P:Program) (T:TypeId) (s:Sh):Bool:=s.cmpB&&s.agg&&s.fixed&&!P.eqGuardType P.depth T&&P.keyTypeAt 20 T&&decide (flat P 20 T=some s.lks)&&(match P.underlying T with|some (.struct _)|some (.array _ _)=>Nat.beq s.size (P.cellsOf T)|_=>false)
section
variable {P:Program} {n0:Nat} {b:Base n0} {M:Fz} {φ:Nat→Value} {ξ:Nat→Option Nat} {H:AStore} {w:World} {ρ:AEnv}
theorem formed_of {T:TypeId} {s:Sh} {cs:List Value} (h:(match P.underlying T with|some (.struct _)|some (.array _ _)=>Nat.beq s.size (P.cellsOf T)|_=>false)=true) (hl:cs.length=s.size):(Value.agg cs.toArray).formed P T=true:=by
 unfold Value.formed
 split at h
 ·rename_i hu
  simp only [hu]
  have:=Nat.eq_of_beq_eq_true h
  simp [hl,this]
 ·rename_i hu
  simp only [hu]
  have:=Nat.eq_of_beq_eq_true h
  simp [hl,this]
 ·cases h
theorem run_eqS {op:BinOp} {T:TypeId} {x y:Operand} {s:Sh} {u v:s.ty} {a c:Value} (hT:eqTB P T s=true) (ha:RelV P M φ (.v s u) a) (hc:RelV P M φ (.v s v) c) (w:World) :
  (op=.eql→(eqN op T x y a c).run P w=.ok (.bool (s.eqb u v)) w)∧(op=.neq→(eqN op T x y a c).run P w=.ok (.bool (!s.eqb u v)) w):=by
 simp only [eqTB,Bool.and_eq_true,Bool.not_eq_true',decide_eq_true_eq] at hT
 obtain ⟨⟨⟨⟨⟨⟨h1,h2⟩,h3⟩,h4⟩,h5⟩,h6⟩,h7⟩:=hT
 obtain ⟨_,cs,rfl,hr⟩:=ha
 obtain ⟨_,ds,rfl,hs⟩:=hc
 have e1:mkV s cs=.agg cs.toArray:=by simp [mkV,h2]
 have e2:mkV s ds=.agg ds.toArray:=by simp [mkV,h2]
 have f1:=formed_of (P:=P) h7 (rep_len h3 hr)
 have f2:=formed_of (P:=P) h7 (rep_len h3 hs)
 have hb:s.eqb u v=true↔s.lits u=s.lits v:=by rw [eqb_iff h1,lits_inj h1 hr hs]
 rw [e1,e2]
 constructor
 ·rintro rfl
  have:=run_eql_flat (P:=P) (m:=20) (d:=20) (xs:=cs.toArray) (ys:=ds.toArray) h5 (by decide) h6 f1 f2 (by simpa using rep_fits h1 hr) (by simpa using rep_fits h1 hs) hb w
  simp [eqN,eqGuard,h4,this]
 ·rintro rfl
  have:=run_neq_flat (P:=P) (m:=20) (d:=20) (xs:=cs.toArray) (ys:=ds.toArray) h5 (by decide) h6 f1 f2 (by simpa using rep_fits h1 hr) (by simpa using rep_fits h1 hs) hb w
  simp [eqN,eqGuard,h4,this]
theorem bs_toL (l:Str):(bs l).toList=l:=by
 have key:∀(n i:Nat) (r:List UInt8),l.length-i=n→ByteArray.toList.loop (bs l) i r=r.reverse++l.drop i:=by
  intro n
  induction n with
  | zero =>
   intro i r h
   rw [ByteArray.toList.loop,if_neg (by rw [bs_size];omega),List.drop_of_length_le (by omega),List.append_nil]
  | succ n ih =>
   intro i r h
   have hi:i<l.length:=by omega
   rw [ByteArray.toList.loop,if_pos (by rw [bs_size];exact hi),ih (i+1) _ (by omega),List.drop_eq_getElem_cons hi]
   have:(bs l).get! i=l[i]:=by
    show (bs l).data[i]! = _
    rw [getElem!_pos _ i (by show i<l.toArray.size;simpa using hi)]
    exact List.getElem_toArray _
   rw [this]
   simp
 have:=key l.length 0 [] (by omega)
 simpa [ByteArray.toList] using this
def strA (op:BinOp) (x y:Str):Option (Sum Bool Str×List Prop) :=
 match op with
 | .eql=>some (.inl (x==y),[])
 | .neq=>some (.inl (!(x==y)),[])
 | .add=>some (.inr (x++y),[x.length+y.length≤maxLen])
 | .lss=>some (.inl (Op.bytesLess x y),[])
 | _=>none
def strR:Sum Bool Str→AVal
 | .inl b=>.v .bool b
 | .inr l=>.v .str l
theorem run_strA {op:BinOp} {t:TypeId} {x y:Operand} {l m:Str} {r:Sum Bool Str} {C:List Prop} (h:strA op l m=some (r,C)) (hC:AllP C) (w:World):∃v,(eqN op t x y (.string (bs l)) (.string (bs m))).run P w=.ok v w∧RelV P M φ (strR r) v:=by
 unfold strA at h
 cases op<;>simp only [injEq,Prod.mk.injEq,reduceCtorEq] at h
 all_goals obtain ⟨rfl,rfl⟩:=h
 ·have h0:l.length+m.length≤9223372036854775807:=by have:=hC.1;simpa [maxLen] using this
  have h1:¬((((bs l).size+(bs m).size:Nat):Int)>IntKind.i64.max):=by
   have e:IntKind.i64.max=9223372036854775807:=by decide
   rw [e,bs_size,bs_size];omega
  refine ⟨.string (bs (l++m)),?_,rfl,_,rfl,rfl,?_⟩
  ·simp only [eqN,eqGuard,binOp,Op.stringOp,if_neg h1,bs_append]
   simp
  ·have:=hC.1;simpa using this
 ·exact ⟨_,by simp only [eqN,eqGuard,binOp,Op.stringOp,bs_toL];rfl,rfl,_,rfl,rfl⟩
 ·exact ⟨_,by simp only [eqN,eqGuard,binOp,Op.stringOp,bs_toL];rfl,rfl,_,rfl,rfl⟩
 ·exact ⟨_,by simp only [eqN,eqGuard,binOp,Op.stringOp,bs_toL];rfl,rfl,_,rfl,rfl⟩
end
def putTV:AVal→Option TV
 | .v s x=>some ⟨s,x⟩
 | .row L=>some ⟨.ref,L⟩
 | .nilp=>some ⟨.any,()⟩
 | .clo _ _=>some ⟨.any,()⟩
 | _=>none
def pthOk:Sh→Path→Bool
 | .arr n _,[.i k]=>Nat.blt k n
 | _,p=>noI p
def bldA (pth:Nat→Path) (place:Nat→Option (Nat×Nat)):TV→List (Nat×AVal)→Option TV
 | tv,[]=>some tv
 | tv,(i,α)::l=>match putTV α with
  | some u=>match getP tv.1 tv.2 (pth i) with
   | some old=>if Nat.beq old.1.size u.1.size&&u.1.fixed&&old.1.fixed&&u.1.isV&&pthOk tv.1 (pth i)&&decide (place i=some (offP tv.1 (pth i),u.1.size)) then
     match setP tv.1 tv.2 (pth i) u with
     | some r=>if r.1.fixed then bldA pth place r l else none
     | none=>none
    else none
   | none=>none
  | none=>none
section
variable {P:Program} {n0:Nat} {b:Base n0} {M:Fz} {φ:Nat→Value} {ξ:Nat→Option Nat} {H:AStore} {w:World} {ρ:AEnv}
theorem relV_put {α:AVal} {u:Value} {v:TV} (h:RelV P M φ α u) (hp:putTV α=some v) (hf:v.1.fixed=true):∃cs,u=mkV v.1 cs∧RepC P φ v.1 M cs v.2:=by
 cases α<;>simp only [putTV,injEq,reduceCtorEq] at hp
 ·subst hp;obtain ⟨_,cs,h1,h2⟩:=h;exact ⟨cs,h1,h2⟩
 ·subst hp;obtain ⟨rfl,h2⟩:=h;exact ⟨[_],rfl,rfl,h2⟩
 ·subst hp;obtain ⟨us,rfl,_⟩:=h;exact ⟨[_],rfl,_,rfl,rfl⟩
 ·subst hp;simp only [RelV] at h;subst h;exact ⟨[_],rfl,_,rfl,rfl⟩
def putH (H:AStore):AVal→Option TV
 | .ptr L p off=>match look H L with
  | some (.var _ _ _)=>if Nat.beq off 0 then some ⟨.ref,L⟩ else none
  | _=>none
 | .fp s x=>if s.pers then some ⟨.pt s,x⟩ else none
 | α=>putTV α
theorem relV_putH {α:AVal} {u:Value} {v:TV} (hc:Core P b M φ ξ H w) (h:RelV P M φ α u) (hp:putH H α=some v) (hf:v.1.fixed=true):∃cs,u=mkV v.1 cs∧RepC P φ v.1 M cs v.2:=by
 unfold putH at hp
 split at hp
 ·rename_i L p off
  split at hp
  ·rename_i T s x hl
   split at hp
   ·rename_i h0
    have h0:=Nat.eq_of_beq_eq_true h0
    subst h0
    simp only [injEq] at hp
    subst hp
    obtain ⟨_,g,c,h1,_⟩:=hc.items L _ (look_mem hl)
    obtain ⟨g',h2,rfl⟩:=h
    rw [h1] at h2
    obtain rfl:=inj h2
    exact ⟨[φ L],h1.symm,rfl,by rw [h1];rfl⟩
   ·cases hp
  ·cases hp
 ·rename_i s x
  split at hp
  ·simp only [injEq] at hp
   subst hp
   obtain ⟨_,g,off,cs,h1,h2,h3⟩:=h
   exact ⟨[u],rfl,g,off,cs,by rw [h1],h2,h3⟩
  ·cases hp
 ·exact relV_put h hp hf
theorem fold_put:∀(v:List Value) (j:Nat) (pre old post:List Value) (cells:Array Value),cells.toList=pre++old++post→old.length=v.length →
  ((v.zipIdx j).foldl (fun cs (x:Value×Nat)=>cs.setIfInBounds (pre.length-j+x.2) x.1) cells).toList=pre++v++post∨pre.length<j:=by
 intro v
 induction v with
 | nil=>intro j pre old post cells h hl;left;have:=List.length_eq_zero_iff.1 hl;subst this;simpa using h
 | cons x v ih =>
  intro j pre old post cells h hl
  rcases Nat.lt_or_ge pre.length j with hj|hj
  ·exact .inr hj
  left
  cases old with
  | nil=>simp at hl
  | cons o old =>
   simp only [List.zipIdx_cons,List.foldl_cons]
   have h1:(cells.setIfInBounds (pre.length-j+j) x).toList=(pre++[x])++old++post:=by
    rw [Array.toList_setIfInBounds,h,show pre.length-j+j=pre.length by omega]
    simp
   have:=ih (j+1) (pre++[x]) old post _ h1 (by simpa using hl)
   simp only [List.length_append,List.length_singleton] at this
   rcases this with this|this
   ·rw [show pre.length+1-(j+1)=pre.length-j by omega] at this
    simpa using this
   ·omega
theorem fill_one {place:Nat→Option (Nat×Nat)} {i off:Nat} {v:Value} {pre old post:List Value} {rest:List (Nat×Value)} {cells:Array Value} (hp:place i=some (off,v.cells.size)) (ho:pre.length=off) (hc:cells.toList=pre++old++post) (hl:old.length=v.cells.size) :
  Instr.fill place cells ((i,v)::rest)=Instr.fill place (pre++v.cells.toList++post).toArray rest:=by
 have hsz:¬off+v.cells.size>cells.size:=by
  have:=congrArg length hc
  simp only [Array.length_toList,List.length_append] at this
  omega
 simp only [Instr.fill,hp]
 rw [if_neg (by simp;omega)]
 congr 1
 apply Array.ext'
 have h:=fold_put v.cells.toList 0 pre old post cells hc (by simpa using hl)
 rcases h with h|h
 ·rw [← ho]
  simp only [Nat.sub_zero] at h
  rw [← h]
  congr 1
  rw [← Array.toList_zipIdx,Array.foldl_toList]
 ·omega
theorem bld_ok {pth:Nat→Path} {place:Nat→Option (Nat×Nat)}:∀{l:List (Nat×AVal)} {vs:List (Nat×Value)} {tv r:TV} {cells:Array Value},bldA pth place tv l=some r→tv.1.fixed=true→RepC P φ tv.1 M cells.toList tv.2 →
  (∀(q:Nat) (α:Nat×AVal),l[q]?=some α→∃u,vs[q]?=some (α.1,u)∧RelV P M φ α.2 u)→vs.length=l.length→∃cells',Instr.fill place cells vs=some cells'∧RepC P φ r.1 M cells'.toList r.2∧r.1.fixed=true
 | [],vs,tv,r,cells,h,hf,hr,_,hl=>by
  simp only [bldA,injEq] at h
  subst h
  obtain rfl:=List.length_eq_zero_iff.1 hl
  exact ⟨cells,rfl,hr,hf⟩
 | (i,α)::l,vs,tv,r,cells,h,hf,hr,hv,hl=>by
  obtain ⟨u,hu0,hu⟩:=hv 0 (i,α) rfl
  obtain ⟨vs,rfl⟩:∃r,vs=(i,u)::r:=by
   cases vs with
   | nil=>simp at hu0
   | cons y vs=>simp at hu0;exact ⟨vs,by rw [hu0]⟩
  simp only [bldA] at h
  cases h1:putTV α with
  | none=>simp [h1] at h
  | some t =>
   simp only [h1] at h
   cases h2:getP tv.1 tv.2 (pth i) with
   | none=>simp [h2] at h
   | some old =>
    simp only [h2] at h
    split at h
    ·rename_i hc
     simp only [Bool.and_eq_true,decide_eq_true_eq] at hc
     obtain ⟨⟨⟨⟨⟨c1,c2⟩,c3⟩,c4⟩,c5⟩,c6⟩:=hc
     cases h3:setP tv.1 tv.2 (pth i) t with
     | none=>simp [h3] at h
     | some q =>
      simp only [h3] at h
      split at h
      ·rename_i hq
       have hok:okP tv.1 tv.2 (pth i):=by
        unfold pthOk at c5
        split at c5
        ·rename_i n s k e1 e2
         obtain ⟨s',x⟩:=tv
         simp only at e1
         subst e1
         rw [e2]
         refine ⟨?_,by simp [okP]⟩
         simpa [Nat.blt_eq] using c5
        ·exact okP_noI c5 h2
       obtain ⟨pre,c,post,e1,e2,e3,e4⟩:=rep_get (.inl hf) hr h2 hok
       obtain ⟨cs,rfl,hcs⟩:=relV_put hu h1 c2
       have hlen:cs.length=t.1.size:=rep_len c2 hcs
       have hcells:=mkV_cells hlen c4 (rep_one hcs)
       have hol:c.length=old.1.size:=rep_len c3 e3
       have c1:=Nat.eq_of_beq_eq_true c1
       have hnew:=e4 cs t q (by omega) hcs h3
       rw [fill_one (pre:=pre) (old:=c) (post:=post) (off:=offP tv.1 (pth i)) (by rw [hcells];simpa [hlen] using c6) e2 e1 (by rw [hcells];simp;omega)]
       refine bld_ok h hq ?_ (fun j β hj=>?_) (by simpa using hl)
       ·rw [hcells];simpa using hnew
       ·have:=hv (j+1) β (by simpa using hj)
        simpa using this
      ·cases h
    ·cases h
def bldT (P:Program) (T:TypeId) (l:List (Nat×AVal)):Option TV :=
 match P.info? T with
 | some it=>match it.zero with
  | some z=>match dec (shOf P true 20 T) z.cells.toList with
   | some (x,[])=>if (shOf P true 20 T).fixed then
    match P.underlying T with
    | some (.struct fs)=>match fs.toList.mapM (fun f=>(P.info? f.type).map fun i=>(f.offset,i.size)) with
     | some pl=>bldA (fPath fs.size) (pl.toArray[·]?) ⟨shOf P true 20 T,x⟩ l
     | none=>none
    | some (.array _ e)=>match P.info? e with
     | some ie=>bldA (fun i=>[.i i]) (fun i=>some (i*ie.size,ie.size)) ⟨shOf P true 20 T,x⟩ l
     | none=>none
    | _=>none
    else none
   | _=>none
  | none=>none
 | none=>none
theorem bldT_ok {T:TypeId} {l:List (Nat×AVal)} {r:TV} (h:bldT P T l=some r) (ha:r.1.agg=true) {vs:List (Nat×Value)} (hv:∀(q:Nat) (α:Nat×AVal),l[q]?=some α→∃u,vs[q]?=some (α.1,u)∧RelV P M φ α.2 u) (hl:vs.length=l.length) (w:World) :
  ∃y,(Instr.build T vs.toArray).run P w=.ok y w∧RelV P M φ (.v r.1 r.2) y:=by
 unfold bldT at h
 cases hi:P.info? T with
 | none=>simp [hi] at h
 | some it =>
  simp only [hi] at h
  cases hz:it.zero with
  | none=>simp [hz] at h
  | some z =>
   simp only [hz] at h
   split at h
   ·rename_i x hd
    split at h
    ·rename_i hf
     obtain ⟨c,hc,hr⟩:=dec_ok (P:=P) (φ:=φ) (M:=M) hd
     rw [List.append_nil] at hc
     subst hc
     have fin:∀cells',RepC P φ r.1 M (Array.toList cells') r.2→r.1.fixed=true→RelV P M φ (.v r.1 r.2) (.agg cells'):=fun cells' h1 h2=>⟨h2,cells'.toList,by simp [mkV,ha],h1⟩
     cases hu:P.underlying T with
     | none=>simp [hu] at h
     | some d =>
      simp only [hu] at h
      cases d<;>simp only [reduceCtorEq] at h
      ·rename_i n e
       cases hie:P.info? e with
       | none=>simp [hie] at h
       | some ie =>
        simp only [hie] at h
        obtain ⟨cells',h1,h2,h3⟩:=bld_ok h hf hr hv hl
        refine ⟨.agg cells',run_build w T _ _ ?_,fin _ h2 h3⟩
        simpa [Program.built,hi,hu,hz,hie] using h1
      ·rename_i fs
       cases hp:fs.toList.mapM (fun f=>(P.info? f.type).map fun i=>(f.offset,i.size)) with
       | none=>simp [hp] at h
       | some pl =>
        simp only [hp] at h
        obtain ⟨cells',h1,h2,h3⟩:=bld_ok h hf hr hv hl
        refine ⟨.agg cells',run_build w T _ _ ?_,fin _ h2 h3⟩
        simpa [Program.built,hi,hu,hz,hp] using h1
    ·cases h
   ·cases h
def lenA (H:AStore):AVal→Option Int
 | .v (.sl _) xs=>some (length xs:Nat)
 | .v .str l=>some (length l:Nat)
 | .v (.nl _) _=>some 0
 | .row L=>match look H L with
  | some (.row _ _ xs)=>some (xs.length:Nat)
  | _=>none
 | .sub _ _ _ n=>some (n:Nat)
 | _=>none
def lenTB (P:Program) (T:TypeId):AVal→Bool
 | .v .str _=>match P.underlying T with|some .string=>true|_=>false
 | _=>match P.underlying T with|some (.slice _)=>true|_=>false
theorem has_len {n:Nat} (h:n≤maxLen):IntKind.i64.has (n:Int):=by
 have:maxLen=9223372036854775807:=by simp [maxLen]
 constructor
 ·show (-9223372036854775808:Int)≤_;omega
 ·show _≤(9223372036854775807:Int);omega
theorem run_lenA (hc:Core P b M φ ξ H w) {T ty:TypeId} {α:AVal} {u:Value} {n:Int} (hu:RelV P M φ α u) (h:lenA H α=some n) (hT:lenTB P T α=true):(Builtin.len_ #[T] ty #[u]).run P w=.ok (.int .i64 n) w∧IntKind.i64.has n:=by
 have sl:∀A len cap,(match P.underlying T with|some (.slice _)=>true|_=>false)=true→(Builtin.len_ #[T] ty #[.slice A len cap]).run P w=.ok (.int .i64 (len:Nat)) w:=by
  intro A len cap ht
  split at ht
  ·rename_i e hu
   simp [Builtin.len_,run_underlying hu,goInt]
  ·cases ht
 unfold lenA at h
 split at h
 ·rename_i s xs
  simp only [injEq] at h;subst h
  obtain ⟨_,cs,rfl,A,len,cap,vs,rfl,rfl,h2,_⟩:=hu
  exact ⟨sl A _ cap hT,has_len (by omega)⟩
 ·rename_i l
  simp only [injEq] at h;subst h
  obtain ⟨_,cs,rfl,rfl,h2⟩:=hu
  simp only [lenTB] at hT
  split at hT
  ·rename_i hu
   refine ⟨?_,has_len h2⟩
   have e:mkV .str [.string (bs l)]=.string (bs l):=rfl
   rw [e]
   simp [Builtin.len_,run_underlying hu,goInt,bs_size]
  ·cases hT
 ·simp only [injEq] at h;subst h
  obtain ⟨_,cs,rfl,h2⟩:=hu
  simp only [RepC] at h2
  subst h2
  exact ⟨sl none 0 0 hT,has_len (n:=0) (Nat.zero_le _)⟩
 ·rename_i L
  split at h
  ·rename_i e s xs hl
   simp only [injEq] at h;subst h
   obtain ⟨rfl,_⟩:=hu
   obtain ⟨_,A,cap,h1,h2⟩:=hc.items L _ (look_mem hl)
   rw [h1]
   refine ⟨sl A _ cap hT,has_len ?_⟩
   rcases h2 with ⟨_,rfl,_⟩|⟨g,c,_,_,_,h5,h6,_⟩
   ·simp
   ·omega
  ·cases h
 ·rename_i L sz lo m
  simp only [injEq] at h;subst h
  obtain ⟨A,m',c,h1,h2,h3,B,rfl,_⟩:=hu
  exact ⟨sl B _ _ hT,has_len (by omega)⟩
 ·cases h
def bndA (d:Nat):Option AVal→Option (Nat×List Prop)
 | none=>some (d,[])
 | some (.v (.int _) n)=>some (toNat n,[(0:Int)≤n])
 | _=>none
def RelO (P:Program) (M:Fz) (φ:Nat→Value):Option AVal→Option Value→Prop
 | none,none=>True
 | some α,some u=>RelV P M φ α u
 | _,_=>False
theorem run_bnd {o:Option AVal} {v:Option Value} {d n:Nat} {C:List Prop} (hr:RelO P M φ o v) (h:bndA d o=some (n,C)) (hC:AllP C):(v=none∧n=d)∨∃(k:IntKind) (m:Int),v=some (.int k m)∧0≤m∧m.toNat=n:=by
 cases o with
 | none =>
  cases v with
  | none=>simp only [bndA,injEq,Prod.mk.injEq] at h;exact .inl ⟨rfl,h.1.symm⟩
  | some u=>exact hr.elim
 | some α =>
  cases v with
  | none=>exact hr.elim
  | some u =>
   unfold bndA at h
   split at h
   ·rename_i e;cases e
   ·rename_i k m e
    simp only [injEq] at e
    subst e
    simp only [injEq,Prod.mk.injEq] at h
    obtain ⟨rfl,rfl⟩:=h
    obtain ⟨_,cs,rfl,rfl,_⟩:=hr
    exact .inr ⟨k,m,rfl,hC.1,rfl⟩
   ·cases h
theorem run_bounds {sl:Bool} {len cap lo hi:Nat} {l h:Option Value} (hl:(l=none∧lo=0)∨∃(k:IntKind) (m:Int),l=some (.int k m)∧0≤m∧m.toNat=lo) (hh:(h=none∧hi=len)∨∃(k:IntKind) (m:Int),h=some (.int k m)∧0≤m∧m.toNat=hi) (h1:lo≤hi) (h2:hi≤cap) (h3:len≤cap) (w:World) :
  (Instr.sliceBounds sl len cap l h none).run P w=.ok (lo,hi,cap) w:=by
 have sb:∀(k:IntKind) (m:Int) (y:Nat) (c:BoundsCode),0≤m→m.toNat≤y→(Instr.sliceBound (.int k m) y c).run P w=.ok m.toNat w:=by
  intro k m y c h0 hy
  have:0≤m∧m≤y:=⟨h0,by omega⟩
  simp [Instr.sliceBound,asIntOf,this]
 rcases hl with ⟨rfl,rfl⟩|⟨k,m,rfl,h0,rfl⟩<;>rcases hh with ⟨rfl,rfl⟩|⟨k',m',rfl,h0',rfl⟩
 all_goals simp only [Instr.sliceBounds,Sem.run_bind,Sem.run_pure,Result.andThen_ok]
 ·rw [sb _ _ _ _ h0' h2];rfl
 ·rw [sb _ _ _ _ h0 h1];rfl
 ·rw [sb _ _ _ _ h0' h2];simp only [Result.andThen_ok];rw [sb _ _ _ _ h0 h1];rfl
theorem sl_str {T:TypeId} {l:Str} {o1 o2:Option AVal} {v1 v2:Option Value} {lo hi:Nat} {C1 C2:List Prop} {u:Value} (hu:RelV P M φ (.v .str l) u) (hT:P.underlying T=some .string) (r1:RelO P M φ o1 v1) (r2:RelO P M φ o2 v2) (e1:bndA 0 o1=some (lo,C1)) (e2:bndA l.length o2=some (hi,C2)) (c1:AllP C1) (c2:AllP C2) (h1:lo≤hi) (h2:hi≤l.length) (w:World) :
  ∃y,(Instr.sliceAt T u v1 v2 none).run P w=.ok y w∧RelV P M φ (.v .str ((l.take hi).drop lo)) y:=by
 obtain ⟨_,cs,rfl,rfl,hlen⟩:=hu
 have e:mkV .str [.string (bs l)]=.string (bs l):=rfl
 rw [e]
 refine ⟨.string (bs ((l.take hi).drop lo)),?_,rfl,_,rfl,rfl,by simp;omega⟩
 have:=run_bounds (P:=P) (sl:=false) (len:=(bs l).size) (cap:=(bs l).size) (run_bnd r1 e1 c1) (run_bnd r2 e2 c2) h1 h2 (Nat.le_refl _) w
 have ex:(bs l).extract lo hi=bs ((l.take hi).drop lo):=by rw [bs_extract,List.drop_take]
 simp [Instr.sliceAt,Instr.slice,run_underlying hT,this,ex]
theorem sl_sl {T e:TypeId} {s:Sh} {xs:List s.ty} {o1 o2:Option AVal} {v1 v2:Option Value} {lo hi:Nat} {C1 C2:List Prop} {u:Value} (hu:RelV P M φ (.v (.sl s) xs) u) (hT:slB P T=some e) (hs:szB P e s.size=true) (r1:RelO P M φ o1 v1) (r2:RelO P M φ o2 v2) (e1:bndA 0 o1=some (lo,C1)) (e2:bndA xs.length o2=some (hi,C2)) (c1:AllP C1) (c2:AllP C2) (h1:lo≤hi) (h2:hi≤xs.length) (w:World) :
  ∃y,(Instr.sliceAt T u v1 v2 none).run P w=.ok y w∧RelV P M φ (.v (.sl s) ((xs.take hi).drop lo)) y:=by
 obtain ⟨hf,cs,rfl,A,len,cap,vs,rfl,rfl,h3,h4,h5⟩:=hu
 have hf':s.fixed=true:=by simp only [Sh.fixed,Bool.and_eq_true] at hf;exact hf.1
 have e:mkV (.sl s) [.slice A xs.length cap]=.slice A xs.length cap:=rfl
 rw [e]
 have hvl:=RepL_len (fun c y hc=>rep_len hf' hc) h5
 have hb:=run_bounds (P:=P) (sl:=true) (len:=xs.length) (cap:=cap) (run_bnd r1 e1 c1) (run_bnd r2 e2 c2) h1 (by omega) h3.1 w
 have key:∀(n:Nat) (ys:List s.ty) (us:List Value),n≤ys.length→RepL (RepC P φ s M) us ys→RepL (RepC P φ s M) (us.drop (n*s.size)) (ys.drop n):=by
  intro n
  induction n with
  | zero=>intro ys us _ h;simpa using h
  | succ n ih =>
   intro ys us hn h
   cases ys with
   | nil=>simp at hn
   | cons y ys =>
    obtain ⟨c,r,rfl,k1,k2⟩:=h
    have:=ih ys r (by simpa using hn) k2
    rw [Nat.succ_mul,Nat.add_comm,← rep_len hf' k1,← List.drop_drop,List.drop_left,rep_len hf' k1]
    simpa using this
 have key2:∀(n:Nat) (ys:List s.ty) (us:List Value),n≤ys.length→RepL (RepC P φ s M) us ys→RepL (RepC P φ s M) (us.take (n*s.size)) (ys.take n):=by
  intro n
  induction n with
  | zero=>intro ys us _ h;simp [RepL]
  | succ n ih =>
   intro ys us hn h
   cases ys with
   | nil=>simp at hn
   | cons y ys =>
    obtain ⟨c,r,rfl,k1,k2⟩:=h
    refine ⟨c,r.take (n*s.size),?_,k1,ih ys r (by simpa using hn) k2⟩
    rw [Nat.succ_mul,Nat.add_comm,← rep_len hf' k1,List.take_length_add_append,rep_len hf' k1]
 have hrun:(Instr.sliceAt T (.slice A xs.length cap) v1 v2 none).run P w=.ok (.slice (if cap=lo then A else A.map (·.add (lo*s.size))) (hi-lo) (cap-lo)) w:=by
  simp [Instr.sliceAt,Instr.slice,run_underlying (slB_ok hT),hb,szB_ok hs]
 refine ⟨_,hrun,hf,_,rfl,_,_,_,(vs.take (hi*s.size)).drop (lo*s.size),rfl,?_,?_,?_,?_⟩
 ·simp;omega
 ·omega
 ·intro q hq
  simp only [List.length_drop,List.length_take] at hq
  obtain ⟨g,o,c,k1,k2,k3⟩:=h4 (lo*s.size+q) (by omega)
  have hne:¬cap=lo:=by
   intro e
   have:hi=lo:=by omega
   subst this
   omega
  subst k1
  refine ⟨g,o+lo*s.size,c,by rw [if_neg hne];simp [addz],k2,?_⟩
  rw [Nat.add_assoc,k3,List.getElem?_drop,List.getElem?_take_of_lt (by omega)]
 ·exact key lo _ _ (by simp;omega) (key2 hi xs vs h2 h5)
theorem cv_int {s t:TypeId} {k j:IntKind} {n:Int} {d:TypeDesc} (hs:P.underlying s=some d) (ht:P.underlying t=some (.int k)) (w:World):(convert s t (.int j n)).run P w=.ok (.int k (k.wrap n)) w:=by
 simp only [convert,Sem.run_bind,run_underlying hs,run_underlying ht,Result.andThen_ok]
 cases d<;>rfl
def mx (a c:Int):Int:=if c>a then c else a
def mn (a c:Int):Int:=if c<a then c else a
theorem run_mx {ts:Array TypeId} {ty:TypeId} {k j:IntKind} {a c:Int} (w:World):(Builtin.max_ ts ty #[.int k a,.int j c]).run P w=.ok (.int k (mx a c)) w:=by simp [Builtin.max_,Builtin.max2,mx]
theorem run_mn {ts:Array TypeId} {ty:TypeId} {k j:IntKind} {a c:Int} (w:World):(Builtin.min_ ts ty #[.int k a,.int j c]).run P w=.ok (.int k (mn a c)) w:=by simp [Builtin.min_,Builtin.min2,mn]
theorem run_mx3 {ts:Array TypeId} {ty:TypeId} {k j i:IntKind} {a c d:Int} (w:World):(Builtin.max_ ts ty #[.int k a,.int j c,.int i d]).run P w=.ok (.int k (mx (mx a c) d)) w:=by simp [Builtin.max_,Builtin.max2,mx]
theorem has_mx {k:IntKind} {a c:Int} (h:k.has a) (h':k.has c):k.has (mx a c):=by unfold mx;split<;>assumption
theorem has_mn {k:IntKind} {a c:Int} (h:k.has a) (h':k.has c):k.has (mn a c):=by unfold mn;split<;>assumption
end
abbrev PR:=Option (AVal×List Prop)
def loadH (H:AStore):TV→AVal
 | ⟨.ref,x⟩=>match look H x with
  | some (.var _ _ _)=>.ptr x [] 0
  | _=>.row x
 | v=>loaded v
def ldA (P:Program) (H:AStore) (T:TypeId):AVal→PR
 | .ptr L p off=>match look H L with
  | some it=>match getP it.tv.1 it.tv.2 p with
   | some v=>if rowOk it p&&okT P T v.1 then (if noI p&&Nat.beq (offP it.tv.1 p) off then some (loadH H v,[]) else some (loadH H v,[offP it.tv.1 p=off,okP it.tv.1 it.tv.2 p])) else none
   | none=>none
  | none=>none
 | .fp s x=>if okT P T s then some (loaded ⟨s,x⟩,[]) else none
 | _=>none
def fdA (P:Program) (T f:Nat):AVal→PR
 | .v (.st s) x=>match fldB P T f with
  | some (m,ft,fo)=>match getP (.st s) x (fPath m f) with
   | some v=>if noI (fPath m f)&&Nat.beq (offP (.st s) (fPath m f)) fo&&okT P ft v.1 then some (loaded v,[]) else none
   | none=>none
  | none=>none
 | _=>none
def faA (P:Program) (T f:Nat):AVal→PR
 | .ptr L p off=>match fldB P T f with
  | some (m,ft,fo)=>if szB P ft (P.cellsOf ft)&&!Nat.beq (P.cellsOf ft) 0 then some (.ptr L (p++fPath m f) (off+fo),[]) else none
  | none=>none
 | .fp s x=>match fldB P T f with
  | some (m,ft,fo)=>match getP s x (fPath m f) with
   | some v=>if szB P ft (P.cellsOf ft)&&!Nat.beq (P.cellsOf ft) 0&&noI (fPath m f)&&Nat.beq (offP s (fPath m f)) fo then some (.fp v.1 v.2,[]) else none
   | none=>none
  | none=>none
 | _=>none
def iaA (P:Program) (H:AStore) (T:Nat):AVal→AVal→PR
 | .ptr L p off,.v (.int _) n=>match arrB P T with
  | some (len,e)=>if szB P e (P.cellsOf e) then some (.ptr L (p++[.i (toNat n)]) (off+toNat n*P.cellsOf e),[(0:Int)≤n∧(n:Int)<((len:Nat):Int)]) else none
  | none=>none
 | .fp (.arr m s) x,.v (.int _) n=>match arrB P T with
  | some (len,e)=>if Nat.beq len m&&szB P e s.size then some (.fp s (getD x (toNat n) s.dflt),[(0:Int)≤n∧(n:Int)<((len:Nat):Int)]) else none
  | none=>none
 | .v (.sl s) xs,.v (.int _) n=>match slB P T with
  | some e=>if szB P e s.size&&!Nat.beq s.size 0 then some (.fp s (getD xs (toNat n) s.dflt),[(0:Int)≤n∧(n:Int)<((length xs:Nat):Int)]) else none
  | none=>none
 | .row L,.v (.int _) n=>match look H L with
  | some (.row _ s xs)=>match slB P T with
   | some e=>if szB P e s.size then some (.ptr L [.i (toNat n)] (toNat n*s.size),[(0:Int)≤n∧(n:Int)<((length xs:Nat):Int)]) else none
   | none=>none
  | _=>none
 | .sub L sz lo m,.v (.int _) n=>match look H L with
  | some (.row _ s xs)=>match slB P T with
   | some e=>if szB P e s.size&&Nat.beq sz s.size then some (.ptr L [.i (lo+toNat n)] ((lo+toNat n)*s.size),[(0:Int)≤n∧(n:Int)<((m:Nat):Int)]) else none
   | none=>none
  | _=>none
 | _,_=>none
def isStr (P:Program) (T:Nat):Bool:=match P.underlying T with|some .string=>true|_=>false
def isIntT (P:Program) (T:Nat):Option IntKind:=match P.underlying T with|some (.int k)=>some k|_=>none
def hasU (P:Program) (T:Nat):Bool:=(P.underlying T).isSome
def ixA (P:Program) (T:Nat):AVal→AVal→PR
 | .v (.arr m s) x,.v (.int _) n=>match arrB P T with
  | some (len,e)=>if Nat.beq len m&&okT P e s then some (loaded ⟨s,getD x (toNat n) s.dflt⟩,[(0:Int)≤n∧(n:Int)<((len:Nat):Int)]) else none
  | none=>none
 | .v .str l,.v (.int _) n=>if isStr P T then some (.v (.int .u8) (((getD l (toNat n) 0).toNat:Nat):Int),[(0:Int)≤n∧(n:Int)<((length l:Nat):Int)]) else none
 | _,_=>none
def boI (op:BinOp) (k k':IntKind) (m n:Int):PR :=
 match shA op k m n with
 | some r=>some (.v (.int k) r,[(0:Int)≤n])
 | none=>if k=k' then match cmpA op m n with
  | some r=>some (.v .bool r,[])
  | none=>match intA op k m n with
   | some (r,C)=>some (.v (.int k) r,C)
   | none=>none
  else none
def ptrN:AVal→Option Bool
 | .nilp=>some true
 | .ptr _ _ _=>some false
 | .fp _ _=>some false
 | _=>none
def ptrT (P:Program) (t:TypeId):Bool:=match P.underlying t with
 | some (.pointer _)=>true
 | _=>false
def boA (P:Program) (op:BinOp) (t:TypeId):AVal→AVal→PR
 | .v (.int k) m,.v (.int k') n=>boI op k k' m n
 | .v .str l,.v .str m=>match strA op l m with
  | some (r,C)=>some (strR r,C)
  | none=>none
 | .v .bool l,.v .bool m=>match P.underlying t with
  | some .bool=>match op with
   | .eql=>some (.v .bool (l==m),[])
   | .neq=>some (.v .bool (!(l==m)),[])
   | _=>none
  | _=>none
 | .v (.st s) u,.v (.st s') v=>if h:s'=s then if eqTB P t (.st s) then match op with
   | .eql=>some (.v .bool (Sh.eqb (.st s) u (h▸v)),[])
   | .neq=>some (.v .bool (!Sh.eqb (.st s) u (h▸v)),[])
   | _=>none
   else none
  else none
 | .v (.arr n s) u,.v (.arr n' s') v=>if h:n'=n∧s'=s then if eqTB P t (.arr n s) then match op with
   | .eql=>some (.v .bool (Sh.eqb (.arr n s) u (h.1▸h.2▸v)),[])
   | .neq=>some (.v .bool (!Sh.eqb (.arr n s) u (h.1▸h.2▸v)),[])
   | _=>none
   else none
  else none
 | α,.nilp=>match ptrN α with
  | some z=>if ptrT P t then match op with
   | .eql=>some (.v .bool z,[])
   | .neq=>some (.v .bool (!z),[])
   | _=>none
   else none
  | none=>none
 | _,_=>none
def uoA (op:UnOp):AVal→PR
 | .v .bool x=>match op with
  | .not=>some (.v .bool (!x),[])
  | _=>none
 | .v (.int k) n=>match op with
  | .neg=>some (.v (.int k) (k.wrap (0-n)),[])
  | .xor=>some (.v (.int k) (bits .xor k (if k.signed then -1 else k.max) n),[])
  | _=>none
 | _=>none
def iBy (x:List Int):Str:=x.map fun n=>UInt8.ofNat n.toNat
def byT (P:Program) (T:Nat):Bool:=match P.underlying T with
 | some (.slice e)=>(match P.underlying e with|some (.int .u8)=>true|_=>false)
 | _=>false
def cvA (P:Program) (H:AStore) (s t:TypeId):AVal→PR
 | .v (.int _) n=>match isIntT P t with
  | some k=>if hasU P s then some (.v (.int k) (k.wrap n),[]) else none
  | none=>none
 | .v .str l=>if isStr P s&&isStr P t then some (.v .str l,[]) else none
 | .v (.sl (.int .u8)) xs=>if isStr P t&&byT P s then some (.v .str (iBy xs),[]) else none
 | .row L=>match look H L with
  | some (.row _ (.int .u8) xs)=>if isStr P t&&byT P s then some (.v .str (iBy xs),[]) else none
  | some (.row _ .mb xs)=>if isStr P t&&byT P s then some (.v .str (iBy xs),[]) else none
  | _=>none
 | _=>none
def okNil:AVal→Bool
 | .ptr _ _ _=>true
 | .fp _ _=>true
 | .clo _ _=>true
 | _=>false
def evO (P:Program) (ρ:AEnv):Option Operand→Option (Option AVal)
 | none=>some none
 | some x=>match evA P ρ 0 x with
  | some α=>some (some α)
  | none=>none
def slA (P:Program) (T:TypeId):AVal→Option AVal→Option AVal→PR
 | .v .str l,o1,o2=>match bndA 0 o1,bndA (length l) o2 with
  | some (lo,C1),some (hi,C2)=>if isStr P T then some (.v .str ((take hi l).drop lo),C1++(C2++[lo≤hi,hi≤length l])) else none
  | _,_=>none
 | .v (.sl s) xs,o1,o2=>match bndA 0 o1,bndA (length xs) o2 with
  | some (lo,C1),some (hi,C2)=>match slB P T with
   | some e=>if szB P e s.size then some (.v (.sl s) ((take hi xs).drop lo),C1++(C2++[lo≤hi,hi≤length xs])) else none
   | none=>none
  | _,_=>none
 | _,_,_=>none
def evL (P:Program) (ρ:AEnv):List (TypeId×Operand)→Option (List AVal)
 | []=>some []
 | (t,x)::l=>match evA P ρ t x,evL P ρ l with
  | some α,some r=>some (α::r)
  | _,_=>none
def evPs (P:Program) (ρ:AEnv) (ft:Nat→TypeId):List (Nat×Operand)→Option (List (Nat×AVal))
 | []=>some []
 | (i,x)::l=>match evA P ρ (ft i) x,evPs P ρ ft l with
  | some α,some r=>some ((i,α)::r)
  | _,_=>none
def fieldT (P:Program) (T:TypeId) (i:Nat):TypeId:=match P.underlying T with
 | some (.struct fs)=>match fs[i]? with|some F=>F.type|none=>0
 | some (.array _ e)=>e
 | some (.slice e)=>e
 | _=>0
def biA (P:Program) (H:AStore) (ts:List TypeId):Builtin→List AVal→PR
 | .len,[α]=>match ts with
  | [T]=>if lenTB P T α then match lenA H α with
   | some n=>some (.v (.int .i64) n,[])
   | none=>none
   else none
  | _=>none
 | .max,[.v (.int k) x,.v (.int k') y]=>if k'=k then some (.v (.int k) (mx x y),[]) else none
 | .min,[.v (.int k) x,.v (.int k') y]=>if k'=k then some (.v (.int k) (mn x y),[]) else none
 | .max,[.v (.int k) x,.v (.int k') y,.v (.int k'') z]=>if k'=k∧k''=k then some (.v (.int k) (mx (mx x y) z),[]) else none
 | _,_=>none
def vN (s:Sem Value):Sem Next:=do pure (.value (← s))
def uN (s:Sem Unit):Sem Next:=do s;pure .skip
theorem vN_run {P:Program} {s:Sem Value} {v:Value} {w w':World} (h:s.run P w=.ok v w'):(vN s).run P w=.ok (.value v) w':=by simp [vN,h]
theorem uN_run {P:Program} {s:Sem Unit} {w w':World} (h:s.run P w=.ok () w'):(uN s).run P w=.ok .skip w':=by simp [uN,h]
section
variable {P:Program} {n0:Nat} {b:Base n0} {M:Fz} {φ:Nat→Value} {ξ:Nat→Option Nat} {H:AStore} {w:World} {ρ:AEnv}
theorem loadH_ok (hc:Core P b M φ ξ H w) {v:TV} {y:Value} (h:RelV P M φ (loaded v) y):RelV P M φ (loadH H v) y:=by
 unfold loadH
 split
 ·rename_i x
  split
  ·rename_i T s z hl
   obtain ⟨_,g,c,h1,_⟩:=hc.items x _ (look_mem hl)
   obtain ⟨rfl,_⟩:=h
   exact ⟨g,by rw [h1];rfl,h1⟩
  ·exact h
 ·exact h
theorem ldA_ok (hc:Core P b M φ ξ H w) {T:TypeId} {α β:AVal} {C:List Prop} {u:Value} (hu:RelV P M φ α u) (h:ldA P H T α=some (β,C)) (hC:AllP C):∃y,(Instr.loadAt T u).run P w=.ok y w∧RelV P M φ β y:=by
 unfold ldA at h
 split at h
 ·rename_i L p off
  split at h
  ·rename_i it hl
   split at h
   ·rename_i v hg
    split at h
    ·rename_i hh
     simp only [Bool.and_eq_true] at hh
     split at h
     ·rename_i hn
      simp only [Bool.and_eq_true] at hn
      simp only [injEq,Prod.mk.injEq] at h
      obtain ⟨rfl,rfl⟩:=h
      exact (let ⟨y,h1,h2⟩:=ld_ptr hc hl hu hh.1 hg hh.2 (Nat.eq_of_beq_eq_true hn.2) (okP_noI hn.1 hg);⟨y,h1,loadH_ok hc h2⟩)
     ·simp only [injEq,Prod.mk.injEq] at h
      obtain ⟨rfl,rfl⟩:=h
      exact (let ⟨y,h1,h2⟩:=ld_ptr hc hl hu hh.1 hg hh.2 hC.1 hC.2.1;⟨y,h1,loadH_ok hc h2⟩)
    ·cases h
   ·cases h
  ·cases h
 ·split at h
  ·rename_i hh
   simp only [injEq,Prod.mk.injEq] at h
   obtain ⟨rfl,rfl⟩:=h
   exact ld_fp hc hu hh
  ·cases h
 ·cases h
theorem fdA_ok {T f:Nat} {α β:AVal} {C:List Prop} {u:Value} (hu:RelV P M φ α u) (h:fdA P T f α=some (β,C)) (w:World):∃y,(Instr.field T u f).run P w=.ok y w∧RelV P M φ β y:=by
 unfold fdA at h
 split at h
 ·split at h
  ·rename_i m ft fo hF
   split at h
   ·rename_i v hg
    split at h
    ·rename_i hh
     simp only [Bool.and_eq_true] at hh
     simp only [injEq,Prod.mk.injEq] at h
     obtain ⟨rfl,rfl⟩:=h
     exact fd_val hu hF hg hh.1.1 hh.1.2 hh.2 w
    ·cases h
   ·cases h
  ·cases h
 ·cases h
theorem faA_ok {T f:Nat} {α β:AVal} {C:List Prop} {u:Value} (hu:RelV P M φ α u) (h:faA P T f α=some (β,C)) (w:World):∃y,(Instr.fieldAt T u f).run P w=.ok y w∧RelV P M φ β y:=by
 unfold faA at h
 split at h
 ·split at h
  ·rename_i m ft fo hF
   split at h
   ·rename_i hh
    simp only [Bool.and_eq_true,Bool.not_eq_true'] at hh
    simp only [injEq,Prod.mk.injEq] at h
    obtain ⟨rfl,rfl⟩:=h
    exact fa_ptr hu hF hh.1 hh.2 w _
   ·cases h
  ·cases h
 ·split at h
  ·rename_i m ft fo hF
   split at h
   ·rename_i v hg
    split at h
    ·rename_i hh
     simp only [Bool.and_eq_true,Bool.not_eq_true'] at hh
     simp only [injEq,Prod.mk.injEq] at h
     obtain ⟨rfl,rfl⟩:=h
     exact fa_fp hu hF hh.1.1.1 hh.1.1.2 hg hh.1.2 hh.2 w
    ·cases h
   ·cases h
  ·cases h
 ·cases h
theorem int_val {k:IntKind} {n:Int} {u:Value} (h:RelV P M φ (.v (.int k) n) u):u=.int k n∧k.has n:=by
 obtain ⟨_,cs,rfl,rfl,h2⟩:=h
 exact ⟨rfl,h2⟩
theorem str_val {l:Str} {u:Value} (h:RelV P M φ (.v .str l) u):u=.string (bs l)∧l.length≤maxLen:=by
 obtain ⟨_,cs,rfl,rfl,h2⟩:=h
 exact ⟨rfl,h2⟩
theorem bool_val {x:Bool} {u:Value} (h:RelV P M φ (.v .bool x) u):u=.bool x:=by
 obtain ⟨_,cs,rfl,h2⟩:=h
 simp only [RepC] at h2
 subst h2
 rfl
theorem rel_int {k:IntKind} {n:Int} (h:k.has n):RelV P M φ (.v (.int k) n) (.int k n):=⟨rfl,_,rfl,rfl,h⟩
theorem rel_bool {x:Bool}:RelV P M φ (.v .bool x) (.bool x):=⟨rfl,_,rfl,rfl⟩
theorem rel_str {l:Str} (h:l.length≤maxLen):RelV P M φ (.v .str l) (.string (bs l)):=⟨rfl,_,rfl,rfl,h⟩
theorem iaA_ok (hc:Core P b M φ ξ H w) {T:Nat} {α γ β:AVal} {C:List Prop} {u v:Value} (hu:RelV P M φ α u) (hv:RelV P M φ γ v) (h:iaA P H T α γ=some (β,C)) (hC:AllP C):∃y,(Instr.indexAt T u v).run P w=.ok y w∧RelV P M φ β y:=by
 unfold iaA at h
 split at h
 ·obtain ⟨rfl,_⟩:=int_val hv
  split at h
  ·rename_i len e hT
   split at h
   ·rename_i hh
    simp only [injEq,Prod.mk.injEq] at h
    obtain ⟨rfl,rfl⟩:=h
    exact ia_ptr hu hT hh hC.1 w
   ·cases h
  ·cases h
 ·obtain ⟨rfl,_⟩:=int_val hv
  split at h
  ·rename_i len e hT
   split at h
   ·rename_i hh
    simp only [Bool.and_eq_true] at hh
    simp only [injEq,Prod.mk.injEq] at h
    obtain ⟨rfl,rfl⟩:=h
    exact ia_fp hu hT hh.1 hh.2 hC.1 w
   ·cases h
  ·cases h
 ·obtain ⟨rfl,_⟩:=int_val hv
  split at h
  ·rename_i e hT
   split at h
   ·rename_i hh
    simp only [Bool.and_eq_true,Bool.not_eq_true'] at hh
    simp only [injEq,Prod.mk.injEq] at h
    obtain ⟨rfl,rfl⟩:=h
    exact ia_sl hu hT hh.1 hh.2 hC.1 w
   ·cases h
  ·cases h
 ·obtain ⟨rfl,_⟩:=int_val hv
  split at h
  ·rename_i e' s xs hl
   split at h
   ·rename_i e hT
    split at h
    ·rename_i hh
     simp only [injEq,Prod.mk.injEq] at h
     obtain ⟨rfl,rfl⟩:=h
     exact ia_row hc hu hl hT hh hC.1
    ·cases h
   ·cases h
  ·cases h
 ·obtain ⟨rfl,_⟩:=int_val hv
  split at h
  ·rename_i L sz lo m _ nn _ _ e' s xs hl
   split at h
   ·rename_i e hT
    split at h
    ·rename_i hh
     simp only [Bool.and_eq_true] at hh
     simp only [injEq,Prod.mk.injEq] at h
     obtain ⟨rfl,rfl⟩:=h
     have hsz:=Nat.eq_of_beq_eq_true hh.2
     subst hsz
     have hn:(0:Int)≤nn∧nn<((m:Nat):Int):=hC.1
     obtain ⟨A,m',c,q1,q2,q3,B,rfl,q4⟩:=hu
     obtain ⟨hf,A',cap,h1,h2⟩:=hc.items L _ (look_mem hl)
     rw [h1] at q1
     simp only [Value.slice.injEq] at q1
     obtain ⟨rfl,rfl,rfl⟩:=q1
     have h0:(0:Int)<((m:Nat):Int):=Int.lt_of_le_of_lt hn.1 hn.2
     have hlt:lo<cap:=by omega
     rcases h2 with ⟨_,rfl,rfl,rfl⟩|⟨g,c,h2,rfl,_⟩
     ·omega
     ·rw [q4.1 (by omega)]
      have ea:Option.map (fun a:Addr=>a.add (lo*s.size)) (some ⟨g,0,none⟩)=some ⟨g,lo*s.size,none⟩:=by
       by_cases z:lo*s.size=0<;>simp [Addr.add,z]
      rw [ea]
      refine ⟨_,run_indexSl hT hh.1 hn w,g,by rw [h1];rfl,by rw [Nat.add_mul]⟩
    ·cases h
   ·cases h
  ·cases h
 ·cases h
theorem isStr_ok {T:Nat} (h:isStr P T=true):P.underlying T=some .string:=by
 unfold isStr at h
 split at h
 ·assumption
 ·cases h
theorem isIntT_ok {T:Nat} {k:IntKind} (h:isIntT P T=some k):P.underlying T=some (.int k):=by
 unfold isIntT at h
 split at h
 ·simp only [injEq] at h;subst h;assumption
 ·cases h
theorem ixA_ok {T:Nat} {α γ β:AVal} {C:List Prop} {u v:Value} (hu:RelV P M φ α u) (hv:RelV P M φ γ v) (h:ixA P T α γ=some (β,C)) (hC:AllP C) (w:World):∃y,(Instr.index T u v).run P w=.ok y w∧RelV P M φ β y:=by
 unfold ixA at h
 split at h
 ·obtain ⟨rfl,_⟩:=int_val hv
  split at h
  ·rename_i len e hT
   split at h
   ·rename_i hh
    simp only [Bool.and_eq_true] at hh
    simp only [injEq,Prod.mk.injEq] at h
    obtain ⟨rfl,rfl⟩:=h
    exact ix_arr hu hT hh.1 hh.2 hC.1 w
   ·cases h
  ·cases h
 ·obtain ⟨rfl,_⟩:=int_val hv
  split at h
  ·rename_i hh
   simp only [injEq,Prod.mk.injEq] at h
   obtain ⟨rfl,rfl⟩:=h
   exact ix_str hu (isStr_ok hh) hC.1 w
  ·cases h
 ·cases h
theorem eq_ptrN0 {P:Program} (D:Nat) {t e:TypeId} (ht:P.underlying t=some (.pointer e)) (p:Option Addr) (w:World):(Op.equalIn (D+1) t (.pointer p) (.pointer none)).run P w=.ok p.isNone w:=by
 cases p<;>simp [Op.equalIn,run_underlying ht]
theorem eq_ptrN {P:Program} {t:TypeId} (ht:ptrT P t=true) (p:Option Addr) (w:World):(Op.equal t (.pointer p) (.pointer none)).run P w=.ok p.isNone w:=by
 unfold ptrT at ht
 split at ht
 ·rename_i e hu
  exact eq_ptrN0 9999 hu p w
 ·cases ht
theorem boA_ok {op:BinOp} {t:TypeId} {x y:Operand} {α γ β:AVal} {C:List Prop} {u v:Value} (hu:RelV P M φ α u) (hv:RelV P M φ γ v) (h:boA P op t α γ=some (β,C)) (hC:AllP C) (w:World):∃r,(eqN op t x y u v).run P w=.ok r w∧RelV P M φ β r:=by
 unfold boA at h
 split at h
 ·rename_i k m k' n
  obtain ⟨rfl,h1⟩:=int_val hu
  obtain ⟨rfl,h2⟩:=int_val hv
  unfold boI at h
  split at h
  ·rename_i r hr
   simp only [injEq,Prod.mk.injEq] at h
   obtain ⟨rfl,rfl⟩:=h
   have:=run_shA (P:=P) (t:=t) (x:=x) (y:=y) (j:=k') hr hC.1 h1 w
   exact ⟨_,this.1,rel_int this.2⟩
  ·split at h
   ·rename_i hk
    subst hk
    split at h
    ·rename_i r hr
     simp only [injEq,Prod.mk.injEq] at h
     obtain ⟨rfl,rfl⟩:=h
     exact ⟨_,run_cmpA hr w,rel_bool⟩
    ·split at h
     ·rename_i r C' hr
      simp only [injEq,Prod.mk.injEq] at h
      obtain ⟨rfl,rfl⟩:=h
      have:=run_intA (P:=P) (t:=t) (x:=x) (y:=y) hr hC h1 w
      exact ⟨_,this.1,rel_int this.2⟩
     ·cases h
   ·cases h
 ·obtain ⟨rfl,h1⟩:=str_val hu
  obtain ⟨rfl,h2⟩:=str_val hv
  split at h
  ·rename_i r C' hr
   simp only [injEq,Prod.mk.injEq] at h
   obtain ⟨rfl,rfl⟩:=h
   exact run_strA hr hC w
  ·cases h
 ·have e1:=bool_val hu -- rel_boolop
  have e2:=bool_val hv
  subst e1 e2
  split at h
  ·rename_i l m _ hT
   have:=run_equal_bool (P:=P) w t l m hT
   cases op<;>simp only [injEq,Prod.mk.injEq,reduceCtorEq] at h
   all_goals obtain ⟨rfl,rfl⟩:=h
   ·exact ⟨_,by simp [eqN,eqGuard,binOp,this],rel_bool⟩
   ·exact ⟨_,by simp [eqN,eqGuard,binOp,this],rel_bool⟩
  ·cases h
 ·split at h
  ·rename_i hs
   subst hs
   split at h
   ·rename_i hT
    have:=run_eqS (op:=op) (x:=x) (y:=y) hT hu hv w
    split at h
    ·simp only [injEq,Prod.mk.injEq] at h
     obtain ⟨rfl,rfl⟩:=h
     exact ⟨_,this.1 rfl,rel_bool⟩
    ·simp only [injEq,Prod.mk.injEq] at h
     obtain ⟨rfl,rfl⟩:=h
     exact ⟨_,this.2 rfl,rel_bool⟩
    ·cases h
   ·cases h
  ·cases h
 ·split at h
  ·rename_i hs
   obtain ⟨hs1,hs2⟩:=hs
   subst hs1 hs2
   split at h
   ·rename_i hT
    have:=run_eqS (op:=op) (x:=x) (y:=y) hT hu hv w
    split at h
    ·simp only [injEq,Prod.mk.injEq] at h
     obtain ⟨rfl,rfl⟩:=h
     exact ⟨_,this.1 rfl,rel_bool⟩
    ·simp only [injEq,Prod.mk.injEq] at h
     obtain ⟨rfl,rfl⟩:=h
     exact ⟨_,this.2 rfl,rel_bool⟩
    ·cases h
   ·cases h
  ·cases h
 ·split at h
  ·rename_i z hz
   split at h
   ·rename_i hT
    have hp:∃p:Option Addr,u=.pointer p∧p.isNone=z:=by
     unfold ptrN at hz
     split at hz<;>simp only [injEq,reduceCtorEq] at hz
     ·subst hz;exact ⟨none,hu,rfl⟩
     ·obtain ⟨g,_,h2⟩:=hu;subst hz;exact ⟨_,h2,rfl⟩
     ·obtain ⟨_,g,off,cs,h2,_⟩:=hu;subst hz;exact ⟨_,h2,rfl⟩
    obtain ⟨p,rfl,rfl⟩:=hp
    have hv:v=.pointer none:=hv
    subst hv
    have hq:=eq_ptrN (P:=P) hT p w
    split at h
    ·simp only [injEq,Prod.mk.injEq] at h
     obtain ⟨rfl,rfl⟩:=h
     exact ⟨_,by simp [eqN,eqGuard,binOp,hq],rel_bool⟩
    ·simp only [injEq,Prod.mk.injEq] at h
     obtain ⟨rfl,rfl⟩:=h
     exact ⟨_,by simp [eqN,eqGuard,binOp,hq],rel_bool⟩
    ·cases h
   ·cases h
  ·cases h
 ·cases h
theorem uoA_ok {op:UnOp} {α β:AVal} {C:List Prop} {u:Value} (hu:RelV P M φ α u) (h:uoA op α=some (β,C)) (w:World):∃r,(Op.unary op u).run P w=.ok r w∧RelV P M φ β r:=by
 unfold uoA at h
 split at h
 ·obtain rfl:=bool_val hu
  split at h
  ·simp only [injEq,Prod.mk.injEq] at h
   obtain ⟨rfl,rfl⟩:=h
   exact ⟨_,rfl,rel_bool⟩
  ·cases h
 ·obtain ⟨rfl,_⟩:=int_val hu
  split at h
  ·simp only [injEq,Prod.mk.injEq] at h
   obtain ⟨rfl,rfl⟩:=h
   exact ⟨_,by simp [Op.unary,Op.intArith],rel_int (by first|exact has_wrap _ _|simpa using has_wrap k (0-_))⟩
  ·simp only [injEq,Prod.mk.injEq] at h
   obtain ⟨rfl,rfl⟩:=h
   exact ⟨_,by simp [Op.unary,intBits_xor],rel_int (has_bits _ _ _ _)⟩
  ·cases h
 ·cases h
theorem byT_ok {T:Nat} (h:byT P T=true):∃e,P.underlying T=some (.slice e)∧P.underlying e=some (.int .u8):=by
 unfold byT at h
 split at h
 ·rename_i e he
  split at h
  ·rename_i h2;exact ⟨e,he,h2⟩
  ·cases h
 ·cases h
theorem cv_bytes {s t:TypeId} {A:Option Addr} {n cap:Nat} {vs:List Value} {xs:List Int} {w:World} (hs:byT P s=true) (ht:isStr P t=true) (hx:RepL (RepC P φ (.int .u8) M) vs xs) (hn:xs.length=n) (hm:n≤maxLen)
  (hc:∀j,j<n→∃a,A=some a∧w.cell? (a.add j)=vs[j]?) (hA:A=none→n=0):∃r,(convert s t (.slice A n cap)).run P w=.ok r w∧RelV P M φ (.v .str (iBy xs)) r:=by
 obtain ⟨e,h1,h2⟩:=byT_ok hs
 have hl:(iBy xs).length=n:=by simp [iBy,hn]
 refine ⟨.string (bs (iBy xs)),?_,rel_str (by rw [hl];exact hm)⟩
 have hv:vs=(iBy xs).map fun b=>Value.int .u8 (b.toNat:Int):=by
  clear hn hc hl hA
  induction xs generalizing vs with
  | nil=>exact hx
  | cons x xs ih =>
   obtain ⟨c,r,rfl,⟨rfl,k1⟩,k2⟩:=hx
   rw [ih k2]
   simp only [IntKind.has,IntKind.min,IntKind.max,IntKind.signed,IntKind.bits] at k1
   simp [iBy,UInt8.toNat_ofNat']
   simp at k1
   omega
 cases A with
 | none =>
  obtain rfl:=hA rfl
  have:xs=[]:=List.length_eq_zero_iff.1 hn
  subst this
  rw [run_convert_bytes_string w s t e none 0 cap h1 h2 (isStr_ok ht)]
  rfl
 | some a =>
  have:=run_convert_bytes_back (P:=P) w s t e a cap (iBy xs) h1 h2 (isStr_ok ht) (fun j hj=>by
   obtain ⟨a',e1,e2⟩:=hc j (by omega)
   cases e1
   rw [e2,hv]
   simp [hj])
  rw [hl] at this
  exact this
theorem cvA_ok {H:AStore} {n0:Nat} {b:Base n0} {ξ:Nat→Option Nat} {w:World} (hc:Core P b M φ ξ H w) {s t:TypeId} {α β:AVal} {C:List Prop} {u:Value} (hu:RelV P M φ α u) (h:cvA P H s t α=some (β,C)):∃r,(convert s t u).run P w=.ok r w∧RelV P M φ β r:=by
 unfold cvA at h
 split at h
 ·obtain ⟨rfl,_⟩:=int_val hu
  split at h
  ·rename_i k hk
   split at h
   ·rename_i hs
    simp only [injEq,Prod.mk.injEq] at h
    obtain ⟨rfl,rfl⟩:=h
    obtain ⟨d,hd⟩:=Option.isSome_iff_exists.1 hs
    exact ⟨_,cv_int hd (isIntT_ok hk) w,rel_int (has_wrap _ _)⟩
   ·cases h
  ·cases h
 ·obtain ⟨rfl,h1⟩:=str_val hu
  split at h
  ·rename_i hs
   simp only [Bool.and_eq_true] at hs
   simp only [injEq,Prod.mk.injEq] at h
   obtain ⟨rfl,rfl⟩:=h
   refine ⟨_,?_,rel_str h1⟩
   simp [convert,run_underlying (isStr_ok hs.1),run_underlying (isStr_ok hs.2)]
  ·cases h
 ·rename_i xs
  split at h
  ·rename_i hs
   simp only [Bool.and_eq_true] at hs
   simp only [injEq,Prod.mk.injEq] at h
   obtain ⟨rfl,rfl⟩:=h
   obtain ⟨_,cs,rfl,A,n,cap,vs,rfl,e1,⟨e2,e3⟩,e4,e5⟩:=hu
   have hvl:vs.length=n:=by have:=RepL_len (k:=1) (fun c y hc=>rep_len (s:=.int .u8) rfl hc) e5;omega
   refine cv_bytes hs.2 hs.1 e5 e1 (by omega) (fun j hj=>?_) (fun hA=>?_)
   ·obtain ⟨g,o,c,k1,k2,k3⟩:=e4 j (by omega)
    obtain ⟨T,fr,k4⟩:=hc.over g c k2
    refine ⟨_,k1,?_⟩
    rw [← k3,addz]
    simp [World.cell?,k4]
   ·rcases Nat.eq_zero_or_pos n with h0|h0
    ·exact h0
    ·obtain ⟨g,o,c,k1,_⟩:=e4 0 (by omega)
     rw [hA] at k1;cases k1
  ·cases h
 ·split at h
  ·rename_i L _ e' xs hl
   split at h
   ·rename_i hs
    simp only [Bool.and_eq_true] at hs
    simp only [injEq,Prod.mk.injEq] at h
    obtain ⟨rfl,rfl⟩:=h
    obtain ⟨_,A,cap,k1,k2⟩:=hc.items L _ (look_mem hl)
    obtain ⟨rfl,_⟩:=hu
    rw [k1]
    rcases k2 with ⟨_,rfl,rfl,rfl⟩|⟨g,c,_,rfl,⟨fr,k4,_⟩,k5,k6,k7,k8⟩
    ·exact cv_bytes (vs:=[]) (xs:=[]) hs.2 hs.1 rfl rfl (by simp [maxLen]) (fun j hj=>absurd hj (Nat.not_lt_zero _)) (fun _=>rfl)
    ·refine cv_bytes (xs:=xs) hs.2 hs.1 k8 rfl (by omega) (fun j hj=>⟨_,rfl,?_⟩) (fun hA=>by cases hA)
     simp only [Sh.size,Nat.mul_one]
     rw [List.getElem?_take_of_lt (by simpa using hj),addz]
     simp [World.cell?,k4]
   ·cases h
  ·rename_i L _ e' xs hl
   split at h
   ·rename_i hs
    simp only [Bool.and_eq_true] at hs
    simp only [injEq,Prod.mk.injEq] at h
    obtain ⟨rfl,rfl⟩:=h
    obtain ⟨_,A,cap,k1,k2⟩:=hc.items L _ (look_mem hl)
    obtain ⟨rfl,_⟩:=hu
    rw [k1]
    rcases k2 with ⟨_,rfl,rfl,rfl⟩|⟨g,c,_,rfl,⟨fr,k4,_⟩,k5,k6,k7,k8⟩
    ·exact cv_bytes (vs:=[]) (xs:=[]) hs.2 hs.1 rfl rfl (by simp [maxLen]) (fun j hj=>absurd hj (Nat.not_lt_zero _)) (fun _=>rfl)
    ·refine cv_bytes (xs:=xs) hs.2 hs.1 k8 rfl (by omega) (fun j hj=>⟨_,rfl,?_⟩) (fun hA=>by cases hA)
     simp only [Sh.size,Nat.mul_one]
     rw [List.getElem?_take_of_lt (by simpa using hj),addz]
     simp [World.cell?,k4]
   ·cases h
  ·cases h
 ·cases h
theorem slA_ok {T:TypeId} {α β:AVal} {o1 o2:Option AVal} {v1 v2:Option Value} {C:List Prop} {u:Value} (hu:RelV P M φ α u) (r1:RelO P M φ o1 v1) (r2:RelO P M φ o2 v2) (h:slA P T α o1 o2=some (β,C)) (hC:AllP C) (w:World):∃r,(Instr.sliceAt T u v1 v2 none).run P w=.ok r w∧RelV P M φ β r:=by
 unfold slA at h
 split at h
 ·split at h
  ·rename_i lo C1 hi C2 e1 e2
   split at h
   ·rename_i hT
    simp only [injEq,Prod.mk.injEq] at h
    obtain ⟨rfl,rfl⟩:=h
    obtain ⟨c1,c⟩:=AllP.app hC
    obtain ⟨c2,c3,c4,_⟩:=AllP.app c
    exact sl_str hu (isStr_ok hT) r1 r2 e1 e2 c1 c2 c3 c4 w
   ·cases h
  ·cases h
 ·split at h
  ·rename_i lo C1 hi C2 e1 e2
   split at h
   ·rename_i e hT
    split at h
    ·rename_i hs
     simp only [injEq,Prod.mk.injEq] at h
     obtain ⟨rfl,rfl⟩:=h
     obtain ⟨c1,c⟩:=AllP.app hC
     obtain ⟨c2,c3,c4,_⟩:=AllP.app c
     exact sl_sl hu hT hs r1 r2 e1 e2 c1 c2 c3 c4 w
    ·cases h
   ·cases h
  ·cases h
 ·cases h
theorem biA_ok (hc:Core P b M φ ξ H w) {ts:List TypeId} {bi:Builtin} {l:List AVal} {us:List Value} {β:AVal} {C:List Prop} {ty:TypeId} (hu:RelVs P M φ l us) (h:biA P H ts bi l=some (β,C)) :
  ∃r,(match bi with|.len=>Builtin.len_ ts.toArray ty us.toArray|.max=>Builtin.max_ ts.toArray ty us.toArray|_=>Builtin.min_ ts.toArray ty us.toArray).run P w=.ok r w∧RelV P M φ β r∧(bi=.len∨bi=.max∨bi=.min):=by
 unfold biA at h
 split at h
 ·obtain ⟨u,r,rfl,h1,rfl⟩:=hu
  split at h
  ·split at h
   ·rename_i hT
    split at h
    ·rename_i n hn
     simp only [injEq,Prod.mk.injEq] at h
     obtain ⟨rfl,rfl⟩:=h
     have:=run_lenA (ty:=ty) hc h1 hn hT
     exact ⟨_,this.1,rel_int this.2,.inl rfl⟩
    ·cases h
   ·cases h
  ·cases h
 ·obtain ⟨u,r,rfl,h1,u2,r2,rfl,h2,rfl⟩:=hu
  obtain ⟨rfl,k1⟩:=int_val h1
  obtain ⟨rfl,k2⟩:=int_val h2
  split at h
  ·rename_i hk
   subst hk
   simp only [injEq,Prod.mk.injEq] at h
   obtain ⟨rfl,rfl⟩:=h
   exact ⟨_,run_mx w,rel_int (has_mx k1 k2),.inr (.inl rfl)⟩
  ·cases h
 ·obtain ⟨u,r,rfl,h1,u2,r2,rfl,h2,rfl⟩:=hu
  obtain ⟨rfl,k1⟩:=int_val h1
  obtain ⟨rfl,k2⟩:=int_val h2
  split at h
  ·rename_i hk
   subst hk
   simp only [injEq,Prod.mk.injEq] at h
   obtain ⟨rfl,rfl⟩:=h
   exact ⟨_,run_mn w,rel_int (has_mn k1 k2),.inr (.inr rfl)⟩
  ·cases h
 ·obtain ⟨u,r,rfl,h1,u2,r2,rfl,h2,u3,r3,rfl,h3,rfl⟩:=hu
  obtain ⟨rfl,k1⟩:=int_val h1
  obtain ⟨rfl,k2⟩:=int_val h2
  obtain ⟨rfl,k3⟩:=int_val h3
  split at h
  ·rename_i hk
   obtain ⟨e1,e2⟩:=hk
   subst e1 e2
   simp only [injEq,Prod.mk.injEq] at h
   obtain ⟨rfl,rfl⟩:=h
   exact ⟨_,run_mx3 w,rel_int (has_mx (has_mx k1 k2) k3),.inr (.inl rfl)⟩
  ·cases h
 ·cases h
def slR (P:Program) (H:AStore) (T:TypeId):AVal→Option AVal→Option AVal→PR
 | .row L,o1,o2=>match look H L with
  | some (.row _ s xs)=>match slB P T with
   | some e=>if szB P e s.size then match bndA 0 o1,bndA (length xs) o2 with
     | some (lo,C1),some (hi,C2)=>some (.sub L s.size lo (hi-lo),C1++(C2++[lo≤hi,hi≤length xs]))
     | _,_=>none
    else none
   | none=>none
  | _=>none
 | .ptr L p off,none,none=>match arrB P T with
  | some (n,e)=>if Nat.ble n maxLen&&szB P e (P.cellsOf e) then some (.avw L p off n,[]) else none
  | none=>none
 | .sub L sz l0 n,o1,o2=>match look H L with
  | some (.row _ s xs)=>match slB P T with
   | some e=>if szB P e sz then match bndA 0 o1,bndA n o2 with
     | some (lo,C1),some (hi,C2)=>some (.sub L sz (l0+lo) (hi-lo),C1++(C2++[lo≤hi,l0+hi≤length xs]))
     | _,_=>none
    else none
   | none=>none
  | _=>none
 | α,o1,o2=>slA P T α o1 o2
theorem slR_ok {H:AStore} {n0:Nat} {b:Base n0} {ξ:Nat→Option Nat} {w:World} (hc:Core P b M φ ξ H w) {T:TypeId} {α β:AVal} {o1 o2:Option AVal} {v1 v2:Option Value} {C:List Prop} {u:Value} (hu:RelV P M φ α u) (r1:RelO P M φ o1 v1) (r2:RelO P M φ o2 v2) (h:slR P H T α o1 o2=some (β,C)) (hC:AllP C):∃r,(Instr.sliceAt T u v1 v2 none).run P w=.ok r w∧RelV P M φ β r:=by
 have rowCap:∀{L:Nat} {e:TypeId} {s:Sh} {xs:List s.ty},look H L=some (.row e s xs)→∃A cap,φ L=.slice A xs.length cap∧xs.length≤cap∧cap≤maxLen:=by
  intro L e s xs hl
  obtain ⟨_,A,cap,h1,h2⟩:=hc.items L _ (look_mem hl)
  refine ⟨A,cap,h1,?_⟩
  rcases h2 with ⟨_,rfl,rfl,rfl⟩|⟨g,c,_,_,_,h5,h6,_⟩
  ·exact ⟨Nat.le_refl _,by simp [maxLen]⟩
  ·exact ⟨h5,h6⟩
 unfold slR at h
 split at h
 ·split at h
  ·rename_i L e' s xs hl
   split at h
   ·rename_i e hT
    split at h
    ·rename_i hs
     split at h
     ·rename_i lo C1 hi C2 e1 e2
      simp only [injEq,Prod.mk.injEq] at h
      obtain ⟨rfl,rfl⟩:=h
      obtain ⟨c1,c⟩:=AllP.app hC
      obtain ⟨c2,c3,c4,_⟩:=AllP.app c
      obtain ⟨A,cap,k1,k2,k3⟩:=rowCap hl
      obtain ⟨rfl,_⟩:=hu
      have hb:=run_bounds (P:=P) (sl:=true) (len:=xs.length) (cap:=cap) (run_bnd r1 e1 c1) (run_bnd r2 e2 c2) c3 (by omega) k2 w
      refine ⟨.slice (if cap=lo then A else A.map (·.add (lo*s.size))) (hi-lo) (cap-lo),?_,A,xs.length,cap,k1,by omega,k3,_,rfl,fun hne=>by rw [if_neg hne],fun hz=>by rw [hz];split<;>first|rfl|(cases A<;>simp [Addr.add])⟩
      rw [k1]
      simp [Instr.sliceAt,Instr.slice,run_underlying (slB_ok hT),hb,szB_ok hs]
     ·cases h
    ·cases h
   ·cases h
  ·cases h
 ·split at h
  ·rename_i L p off _ n e hT
   split at h
   ·rename_i hs
    simp only [Bool.and_eq_true] at hs
    simp only [injEq,Prod.mk.injEq] at h
    obtain ⟨rfl,rfl⟩:=h
    obtain ⟨g,k1,rfl⟩:=hu
    obtain rfl:v1=none:=by cases v1<;>first|rfl|exact r1.elim
    obtain rfl:v2=none:=by cases v2<;>first|rfl|exact r2.elim
    refine ⟨.slice (some ⟨g,off,none⟩) n n,?_,Nat.le_of_ble_eq_true hs.1,g,k1,rfl⟩
    have hz:(if n=0 then (⟨g,off,none⟩:Addr) else (⟨g,off,none⟩:Addr).add (0*P.cellsOf e))=⟨g,off,none⟩:=by
     split
     ·rfl
     ·simp [Addr.add]
    simp [Instr.sliceAt,run_underlying (arrB_ok hT),Instr.sureAddr,Instr.sliceBounds,szB_ok hs.2,Addr.add]
   ·cases h
  ·cases h
 ·split at h
  ·rename_i L sz l0 n _ e' s xs hl
   split at h
   ·rename_i e hT
    split at h
    ·rename_i hs
     split at h
     ·rename_i lo C1 hi C2 e1 e2
      simp only [injEq,Prod.mk.injEq] at h
      obtain ⟨rfl,rfl⟩:=h
      obtain ⟨c1,c⟩:=AllP.app hC
      obtain ⟨c2,c3,c4,_⟩:=AllP.app c
      obtain ⟨A,cap,k1,k2,k3⟩:=rowCap hl
      obtain ⟨A',m,c',q1,q2,q3,B,rfl,q4⟩:=hu
      rw [k1] at q1
      simp only [Value.slice.injEq] at q1
      obtain ⟨rfl,rfl,rfl⟩:=q1
      have hb:=run_bounds (P:=P) (sl:=true) (len:=n) (cap:=cap-l0) (run_bnd r1 e1 c1) (run_bnd r2 e2 c2) c3 (by omega) (by omega) w
      refine ⟨.slice (if cap-l0=lo then B else B.map (·.add (lo*sz))) (hi-lo) (cap-l0-lo),?_,A,xs.length,cap,k1,by omega,k3,(if cap-l0=lo then B else B.map (·.add (lo*sz))),by rw [Nat.sub_sub],fun hne=>?_,fun hz=>?_⟩
      ·simp [Instr.sliceAt,Instr.slice,run_underlying (slB_ok hT),hb,szB_ok hs]
      ·rw [if_neg (by omega),q4.1 (by omega)]
       cases A with
       | none=>rfl
       | some a =>
        by_cases z1:l0*sz=0<;>by_cases z2:lo*sz=0<;>simp [Addr.add,Nat.add_mul,Nat.add_assoc,z1,z2]
      ·have h1:l0=0:=by omega
       have h2:lo=0:=by omega
       rw [q4.2 h1,h2]
       split<;>first|rfl|(cases A<;>simp [Addr.add])
     ·cases h
    ·cases h
   ·cases h
  ·cases h
 ·exact slA_ok hu r1 r2 h hC w
def slF (P:Program) (H:AStore) (T:TypeId):AVal→Option AVal→AVal→AVal→PR
 | .row L,o1,.v (.int _) h,.v (.int _) m=>match look H L with
  | some (.row _ s xs)=>match slB P T with
   | some e=>if szB P e s.size then match bndA 0 o1 with
     | some (lo,C1)=>some (.v .any (),C1++[(0:Int)≤h,(0:Int)≤m,lo≤toNat h,toNat h≤toNat m,toNat m≤length xs])
     | none=>none
    else none
   | none=>none
  | _=>none
 | _,_,_,_=>none
theorem slF_ok {H:AStore} {n0:Nat} {b:Base n0} {ξ:Nat→Option Nat} {w:World} (hc:Core P b M φ ξ H w) {T:TypeId} {α β α2 α3:AVal} {o1:Option AVal} {v1:Option Value} {v2 v3:Value} {C:List Prop} {u:Value} (hu:RelV P M φ α u) (r1:RelO P M φ o1 v1) (r2:RelV P M φ α2 v2) (r3:RelV P M φ α3 v3) (h:slF P H T α o1 α2 α3=some (β,C)) (hC:AllP C):∃r,(Instr.sliceAt T u v1 (some v2) (some v3)).run P w=.ok r w∧RelV P M φ β r:=by
 unfold slF at h
 split at h
 ·split at h
  ·rename_i x1 o1 L k2 hh k3 m x2 e' s xs hl
   split at h
   ·rename_i e hT
    split at h
    ·rename_i hs
     split at h
     ·rename_i lo C1 e1
      simp only [injEq,Prod.mk.injEq] at h
      obtain ⟨rfl,rfl⟩:=h
      obtain ⟨c1,c2,c3,c4,c5,c6,_⟩:=AllP.app hC
      obtain ⟨_,A,cap,k1,kk⟩:=hc.items L _ (look_mem hl)
      have hcap:xs.length≤cap:=by
       rcases kk with ⟨_,rfl,rfl,rfl⟩|⟨g,c,_,_,_,h5,h6,_⟩
       ·exact Nat.le_refl _
       ·exact h5
      obtain ⟨rfl,_⟩:=hu
      obtain ⟨rfl,_⟩:=int_val r2
      obtain ⟨rfl,_⟩:=int_val r3
      have sb:∀(k:IntKind) (m:Int) (y:Nat) (c:BoundsCode),0≤m→m.toNat≤y→(Instr.sliceBound (.int k m) y c).run P w=.ok m.toNat w:=by
       intro k m y c h0 hy
       have:0≤m∧m≤y:=⟨h0,by omega⟩
       simp [Instr.sliceBound,asIntOf,this]
      have hb:(Instr.sliceBounds true xs.length cap v1 (some (.int k2 hh)) (some (.int k3 m))).run P w=.ok (lo,hh.toNat,m.toNat) w:=by
       rcases run_bnd r1 e1 c1 with ⟨rfl,rfl⟩|⟨k,m',rfl,h0,rfl⟩
       ·simp only [Instr.sliceBounds,Sem.run_bind,Sem.run_pure,Result.andThen_ok]
        rw [sb _ _ _ _ c3 (by omega)];simp only [Result.andThen_ok];rw [sb _ _ _ _ c2 (by omega)];rfl
       ·simp only [Instr.sliceBounds,Sem.run_bind,Sem.run_pure,Result.andThen_ok]
        rw [sb _ _ _ _ c3 (by omega)];simp only [Result.andThen_ok];rw [sb _ _ _ _ c2 (by omega)];simp only [Result.andThen_ok];rw [sb _ _ _ _ h0 (by omega)];rfl
      refine ⟨.slice (if m.toNat=lo then A else A.map (·.add (lo*s.size))) (hh.toNat-lo) (m.toNat-lo),?_,rfl,_,rfl,_,rfl,rfl⟩
      rw [k1]
      simp [Instr.sliceAt,Instr.slice,run_underlying (slB_ok hT),hb,szB_ok hs]
     ·cases h
    ·cases h
   ·cases h
  ·cases h
 ·cases h
end
def findM {α:Type} (k:Sh) (key:k.ty):List (k.ty×α)→Nat→Option (Nat×α)
 | [],_=>none
 | y::ys,i=>if k.eqb key y.1 then some (i,y.2) else findM k key ys (i+1)
def getM {α:Type} (k:Sh) (key:k.ty) (d:α) (l:List (k.ty×α)):α:=match findM k key l 0 with
 | some r=>r.2
 | none=>d
def hasM {α:Type} (k:Sh) (key:k.ty) (l:List (k.ty×α)):Bool:=(findM k key l 0).isSome
def zeroD (P:Program) (e:TypeId) (v:Sh):Option v.ty:=match P.info? e with
 | some i=>match i.zero with
  | some z=>match z with
   | .agg _=>none
   | z=>if v.agg then none else match dec v [z] with
    | some (d,[])=>some d
    | _=>none
  | none=>none
 | none=>none
def mapB (P:Program) (T:TypeId):Option (TypeId×TypeId):=match P.underlying T with
 | some (.map k e)=>some (k,e)
 | _=>none
def lkA (P:Program) (H:AStore) (T:TypeId) (ck:Bool):AVal→AVal→PR
 | .row L,.v k' key=>match look H L with
  | some (.mp _ k v x)=>if h:k'=k then match mapB P T with
   | some (kt,et)=>if eqTB P kt k then match zeroD P et v with
    | some d=>match ck with
     | true=>some (.tup [.v v (getM k (h▸key) d x),.v .bool (hasM k (h▸key) x)],[])
     | false=>some (.v v (getM k (h▸key) d x),[])
    | none=>none
    else none
   | none=>none
   else none
  | _=>none
 | _,_=>none
section
variable {P:Program} {n0:Nat} {b:Base n0} {M:Fz} {φ:Nat→Value} {ξ:Nat→Option Nat} {H:AStore} {w:World} {ρ:AEnv}
theorem mapB_ok {T k e:TypeId} (h:mapB P T=some (k,e)):P.underlying T=some (.map k e):=by
 unfold mapB at h
 split at h
 ·rename_i k' e' hu
  simp only [injEq,Prod.mk.injEq] at h
  obtain ⟨rfl,rfl⟩:=h
  exact hu
 ·cases h
theorem zeroD_ok {e:TypeId} {v:Sh} {d:v.ty} (h:zeroD P e v=some d) (w:World):∃z,(zeroValue e).run P w=.ok z w∧∃cs,z=mkV v cs∧RepC P φ v M cs d:=by
 unfold zeroD at h
 split at h
 ·rename_i i hi
  split at h
  ·rename_i z hz
   split at h
   ·cases h
   ·split at h
    ·cases h
    ·rename_i ha
     split at h
     ·rename_i d' hd
      simp only [injEq] at h
      subst h
      obtain ⟨c,hc,hr⟩:=dec_ok (P:=P) (φ:=φ) (M:=M) hd
      rw [List.append_nil] at hc
      refine ⟨z,by simp [zeroValue,typeInfo,hi,hz],c,?_,hr⟩
      rw [← hc]
      simp [mkV,ha]
     ·cases h
  ·cases h
 ·cases h
theorem key_forms {kt:TypeId} {k:Sh} (hT:eqTB P kt k=true) {c:List Value} {x:k.ty} (hr:RepC P φ k M c x):(mkV k c).formed P kt=true∧fits k.lks (mkV k c).cells.toList=some (k.lits x)∧mkV k c=.agg c.toArray:=by
 simp only [eqTB,Bool.and_eq_true,Bool.not_eq_true',decide_eq_true_eq] at hT
 obtain ⟨⟨⟨⟨⟨⟨h1,h2⟩,h3⟩,h4⟩,h5⟩,h6⟩,h7⟩:=hT
 have e1:mkV k c=.agg c.toArray:=by simp [mkV,h2]
 rw [e1]
 exact ⟨formed_of h7 (rep_len h3 hr),by simpa [Value.cells] using rep_fits h1 hr,rfl⟩
theorem run_equalK {kt:TypeId} {k:Sh} (hT:eqTB P kt k=true) {c1 c2:List Value} {x y:k.ty} (hr:RepC P φ k M c1 x) (hs:RepC P φ k M c2 y) (w:World):(Op.equal kt (mkV k c1) (mkV k c2)).run P w=.ok (k.eqb x y) w:=by
 obtain ⟨f1,g1,_⟩:=key_forms hT hr
 obtain ⟨f2,g2,_⟩:=key_forms hT hs
 simp only [eqTB,Bool.and_eq_true,Bool.not_eq_true',decide_eq_true_eq] at hT
 obtain ⟨⟨⟨⟨⟨⟨h1,h2⟩,h3⟩,h4⟩,h5⟩,h6⟩,h7⟩:=hT
 exact run_equal_flat (P:=P) (m:=20) (d:=20) h5 (by decide) h6 f1 f2 g1 g2 (by rw [eqb_iff h1,lits_inj h1 hr hs]) w
theorem run_checkK {kt:TypeId} {k:Sh} (hT:eqTB P kt k=true) {c:List Value} {x:k.ty} (hr:RepC P φ k M c x) (em:Bool) (w:World):(Instr.checkKey em 10000 kt (mkV k c)).run P w=.ok () w:=by
 obtain ⟨f1,g1,_⟩:=key_forms hT hr
 simp only [eqTB,Bool.and_eq_true,Bool.not_eq_true',decide_eq_true_eq] at hT
 obtain ⟨⟨⟨⟨⟨⟨h1,h2⟩,h3⟩,h4⟩,h5⟩,h6⟩,h7⟩:=hT
 exact run_checkKey_deep em 9980 20 kt h5 w 20 _ _ f1 (keyLits_flat 20 kt _ _ _ h6 g1)
theorem run_findA {kt:TypeId} {k v:Sh} (hT:eqTB P kt k=true) {c:List Value} {key:k.ty} (hr:RepC P φ k M c key):∀{es:List MapEntry} {ys:List (k.ty×v.ty)} {n i:Nat},RepM P φ M k v es ys n →
  ∃r,(Instr.findAsking kt (mkV k c) es i).run P w=.ok r w∧((r=none∧findM k key ys i=none)∨∃j u x,r=some (j,u)∧findM k key ys i=some (j,x)∧∃cv,u=mkV v cv∧RepC P φ v M cv x)
 | [],[],_,i,_=>⟨none,rfl,.inl ⟨rfl,rfl⟩⟩
 | e::es,y::ys,n,i,⟨⟨ck,cv,h1,h2,h3,h4,_⟩,h6⟩=>by
  have he:=run_equalK hT hr h2 w
  rw [← h1] at he
  cases hq:k.eqb key y.1 with
  | true =>
   rw [hq] at he
   refine ⟨some (i,e.val),by simp [Instr.findAsking,he],.inr ⟨i,e.val,y.2,rfl,by simp [findM,hq],cv,h3,h4⟩⟩
  | false =>
   rw [hq] at he
   obtain ⟨r,g1,g2⟩:=run_findA (i:=i+1) hT hr h6
   refine ⟨r,by simp [Instr.findAsking,he,g1],?_⟩
   simpa [findM,hq] using g2
 | [],_::_,_,_,h=>h.elim
 | _::_,[],_,_,h=>h.elim
theorem run_findK {kt:TypeId} {k v:Sh} (hT:eqTB P kt k=true) {c:List Value} {key:k.ty} (hr:RepC P φ k M c key) {es:List MapEntry} {ys:List (k.ty×v.ty)} {n:Nat} (h:RepM P φ M k v es ys n) :
  ∃r,(Instr.findKey kt (mkV k c) es).run P w=.ok r w∧((r=none∧findM k key ys 0=none)∨∃j u x,r=some (j,u)∧findM k key ys 0=some (j,x)∧∃cv,u=mkV v cv∧RepC P φ v M cv x):=by
 obtain ⟨r,h1,h2⟩:=run_findA (w:=w) (i:=0) hT hr h
 refine ⟨r,?_,h2⟩
 rw [run_findKey_eq w _ (mkV k c) es]
 ·exact h1
 ·simp only [eqTB,Bool.and_eq_true] at hT
  have:=hT.2
  split at this<;>simp_all
theorem lkA_ok (hc:Core P b M φ ξ H w) {T:TypeId} {ck:Bool} {α κ β:AVal} {C:List Prop} {u q:Value} (h:lkA P H T ck α κ=some (β,C)) (hu:RelV P M φ α u) (hq:RelV P M φ κ q):∃r,(Instr.lookup T u q ck).run P w=.ok r w∧RelV P M φ β r:=by
 unfold lkA at h
 split at h
 ·rename_i L k' key
  split at h
  ·rename_i T' k v x hl
   split at h
   ·rename_i hk
    subst hk
    split at h
    ·rename_i kt et hm
     split at h
     ·rename_i hT
      split at h
      ·rename_i d hd
       obtain ⟨rfl,_⟩:=hu
       obtain ⟨_,c,rfl,hr⟩:=hq
       obtain ⟨⟨p1,p2,p3,p4⟩,g,es,g1,g2,g3,g4⟩:=hc.items L _ (look_mem hl)
       obtain ⟨z,z1,cz,z2,z3⟩:=zeroD_ok (P:=P) (φ:=φ) (M:=M) hd w
       obtain ⟨r,f1,f2⟩:=run_findK (w:=w) hT hr g4
       have hck:=run_checkK hT hr es.isEmpty w
       have val:∃vv ok,(Instr.lookup T (φ L) (mkV k' c) ck).run P w=.ok (if ck then .tuple #[vv,.bool ok] else vv) w∧RelV P M φ (.v v (getM k' key d x)) vv∧ok=hasM k' key x:=by
        have hobj:(getObj g).run P w=.ok (.map es es.size) w:=by simp [getObj,Sem.run,g3]
        rcases f2 with ⟨rfl,f3⟩|⟨j,uu,xx,rfl,f3,cv,f4,f5⟩
        ·refine ⟨z,false,?_,?_,by rw [hasM,f3];rfl⟩
         ·rw [g1]
          simp [Instr.lookup,run_underlying (mapB_ok hm),hobj,hck,f1,z1]
         ·rw [getM,f3];exact ⟨p2,cz,z2,z3⟩
        ·refine ⟨uu,true,?_,?_,by rw [hasM,f3];rfl⟩
         ·rw [g1]
          simp [Instr.lookup,run_underlying (mapB_ok hm),hobj,hck,f1]
         ·rw [getM,f3];exact ⟨p2,cv,f4,f5⟩
       obtain ⟨vv,ok,v1,v2,v3⟩:=val
       refine ⟨_,v1,?_⟩
       cases ck with
       | true =>
        simp only [injEq,Prod.mk.injEq] at h
        obtain ⟨rfl,rfl⟩:=h
        exact ⟨[vv,.bool ok],rfl,vv,_,rfl,v2,_,_,rfl,⟨rfl,[.bool ok],rfl,by rw [v3];rfl⟩,rfl⟩
       | false =>
        simp only [injEq,Prod.mk.injEq] at h
        obtain ⟨rfl,rfl⟩:=h
        exact v2
      ·cases h
     ·cases h
    ·cases h
   ·cases h
  ·cases h
 ·cases h
end
end Go.Proofs.YtglfdihomfhmmaaGreatDoor
