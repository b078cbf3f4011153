/- Laws of my own that the statement leans on; part HA. -/
import Derived.Laws.BitsAllLaws
import Derived.Test.YtjcbamenfaoffaaGreatDoorH9
set_option linter.unusedVariables false
set_option linter.unusedSimpArgs false
open List (length replicate getD drop take)
open Option.some (inj injEq)
open Int (toNat)
open Go.IntKind (wrap)
namespace Go.Proofs.YtjcbamenfaoffaaGreatDoor.Cl
open Go.RowKit Go.IntWalk Mo
def haF (x:KpT):HaT:=(false,x,(0,0,0),replicate 8 0)
theorem okId_zero:okId (0,0,0):=⟨⟨by decide,by decide,by decide⟩,by decide⟩
theorem okHaF {x:KpT} (h:okKp x):okHa (haF x):=⟨h,okId_zero,ok8_zero⟩
def coTake (c:CoT) (x:KpT):CoT:=(c.1,c.2.1,c.2.2.1,c.2.2.2.1,c.conf,c.mem,c.cnt.set x.1.toNat x.2.1,c.kept.filter (keepB x)++[x],c.2.2.2.2.2.2.2.2)
theorem mc_take {c:CoT} {i B:Nat} (ok:okCo i B c) {x:KpT} {k:Nat} (hk:k<8) (e:x.1=(k:Int)):mc (coTake c x)=ktake (mc c) k x.2.1 x.2.2:=by
 have e1:gt (c.cnt.set x.1.toNat x.2.1)=fun j=>if j=k then x.2.1 else gt c.cnt j:=by
  funext j
  show (c.cnt.set x.1.toNat x.2.1).getD j 0=_
  rw [e,Int.toNat_natCast,getD_set (by rw [ok.cnt.1];exact hk)]
 have e2:(fun (k':Nat) r' f'=>((k':Int),r',f')∈c.kept.filter (keepB x)++[x])=kput (fun (k':Nat) r' f'=>((k':Int),r',f')∈c.kept) k x.2.1 x.2.2:=by
  funext k' r' f'
  apply propext
  obtain ⟨x1,x2,x3⟩:=x
  simp only at e
  subst e
  simp only [kput,List.mem_append,List.mem_filter,List.mem_singleton,keepB,Bool.not_eq_true',Bool.and_eq_false_iff,beq_eq_false_iff_ne,decide_eq_false_iff_not,Prod.mk.injEq]
  constructor
  ·rintro (⟨h1,h2⟩|⟨h1,h2,h3⟩)
   ·refine .inl ⟨h1,?_⟩
    rintro ⟨rfl,h3⟩
    have:=(ok.kept _ h1).b
    simp only [U] at this
    rcases h2 with h2|h2|h2
    ·exact h2 rfl
    ·omega
    ·omega
   ·exact .inr ⟨by omega,h2,h3⟩
  ·rintro (⟨h1,h2⟩|⟨h1,h2,h3⟩)
   ·refine .inl ⟨h1,?_⟩
    by_cases q:k'=k
    ·right;right
     intro h3
     exact h2 ⟨q,h3⟩
    ·left;omega
   ·exact .inr ⟨by omega,h2,h3⟩
 show ({ mc c with cnt:=gt (c.cnt.set x.1.toNat x.2.1),kept:=fun (k':Nat) r' f'=>((k':Int),r',f')∈c.kept.filter (keepB x)++[x] }:MC FrT)=ktake (mc c) k x.2.1 x.2.2
 rw [e1,e2]
 rfl
theorem ok_take {c:CoT} {i B:Nat} (ok:okCo i B c) {x:KpT} (hx:okKp x) (hl:c.kept.length+1≤B):okCo i B (coTake c x):=by
 refine ⟨ok.i8,ok.self,ok.wait,ok.own,ok.beat,ok.conf,ok.mem,ok8_set ok.cnt hx.b,fun y hy=>?_,?_,ok.prom,ok.want,ok.cut,ok.plen,ok.peers,ok.epoch⟩
 ·rcases List.mem_append.1 (show y∈c.kept.filter (keepB x)++[x] from hy) with h|h
  ·exact ok.kept y (List.mem_filter.1 h).1
  ·obtain rfl:=List.mem_singleton.1 h;exact hx
 ·show (c.kept.filter (keepB x)++[x]).length≤B
  have:=List.length_filter_le (keepB x) c.kept
  simp;omega
theorem isT_ha {c:CoT} {i k:Nat} {x:KpT} (e:x.1=(k:Int)):IsT (mc c) i k x.2.1 x.2.2 (mto i c.own (rk c.conf) (haF x)):=⟨rfl,rfl,rfl,rfl,by show x.1.toNat=k;rw [e,Int.toNat_natCast],rfl,rfl⟩
theorem St.take {n i B:Nat} {w0:MW FrT} {in0:Int} {c:CoT} {l:List HaT} (s:St n i B w0 in0 c l) {x:KpT} (hx:okKp x) (ht:tkB c.cnt c.mem x=true) (hl:c.kept.length+1≤B) (hl2:l.length+1≤B)
  (hO:∀w,InvM n w→w.pk=w0.pk→Own w.told (rk c.conf) x.1.toNat x.2.1 x.2.2)
  (hc:(rk c.prom=rk c.conf)∨(rk c.prom≠rk c.conf∧c.ready=false∧All (mc c) i∧∃u,Tgt (mc c) i u∧x.2.1≤u x.1.toNat)):St n i B w0 in0 (coTake c x) (l++[haF x]):=by
 obtain ⟨⟨k,e,hk,hm⟩,h1,h2⟩:=tkB_iff.1 ht
 refine s.tell (haF x) (okHaF hx) hl2 (ok_take s.ok hx hl) rfl rfl fun w hI hi hw hpk=>?_
 have hO:=hO w hI hpk
 rw [e,Int.toNat_natCast] at hO hc h2
 refine ⟨_,st_take hI hi (k:=k) (r:=x.2.1) (f:=x.2.2) (t:=mto i c.own (rk c.conf) (haF x)) (by rw [hw];exact isT_ha e) (by rw [hw];exact h2) (by rw [hw];exact hO) (by rw [hw];exact hc),fun j hj=>put_other w _ hj,?_,rfl,rfl⟩
 rw [add_same,hw,mc_take s.ok hk e]
theorem St.emit {n i B:Nat} {w0:MW FrT} {in0:Int} {c:CoT} {l:List HaT} (s:St n i B w0 in0 c l) {f:FrT} (hf:okFr f) (hl:c.kept.length+1≤B) (hl2:l.length+1≤B) (hg:c.prom=c.conf) (hlt:c.cnt.getD i 0<4294967295)
  (hm:∀j,gt c.mem j≠0→gt c.cnt i≤gt c.cnt j):St n i B w0 in0 (coTake c ((i:Int),c.cnt.getD i 0+1,f)) (l++[haF ((i:Int),c.cnt.getD i 0+1,f)]):=by
 have h8:=s.ok.i8
 have hg0:=ok8_get s.ok.cnt i
 have hx:okKp ((i:Int),c.cnt.getD i 0+1,f):=⟨⟨Int.natCast_nonneg i,by show (i:Int)≤7;omega⟩,by show U (c.cnt.getD i 0+1);unfold U;omega,hf⟩
 refine s.tell (haF ((i:Int),c.cnt.getD i 0+1,f)) (okHaF hx) hl2 (ok_take s.ok hx hl) rfl rfl fun w hI hi hw hpk=>?_
 refine ⟨_,st_emit hI hi (f:=f) (t:=mto i c.own (rk c.conf) (haF ((i:Int),c.cnt.getD i 0+1,f))) (by rw [hw];exact isT_ha (x:=((i:Int),c.cnt.getD i 0+1,f)) rfl) (by rw [hw];show rk c.prom=rk c.conf;rw [hg]) (by rw [hw];exact hm),fun j hj=>put_other w _ hj,?_,rfl,rfl⟩
 rw [add_same,hw,mc_take s.ok h8 rfl]
 rfl
theorem St.ready {n i B:Nat} {w0:MW FrT} {in0:Int} {c:CoT} {l:List HaT} (s:St n i B w0 in0 c l) (hg:rk c.prom≠rk c.conf) (hr:c.ready=false) (ha:All (mc c) i) {u:Nat→Int} (hu:Tgt (mc c) i u) (hle:∀f,u f≤gt c.cnt f) :
  St n i B w0 in0 (c.1,c.2.1,c.2.2.1,c.2.2.2.1,c.conf,c.mem,c.cnt,c.kept,c.prom,c.want,c.cut,true,c.2.2.2.2.2.2.2.2.2.2.2.2) l:=by
 have ok:=s.ok
 refine s.quiet ⟨ok.i8,ok.self,ok.wait,ok.own,ok.beat,ok.conf,ok.mem,ok.cnt,ok.kept,ok.klen,ok.prom,ok.want,ok.cut,ok.plen,ok.peers,ok.epoch⟩ rfl rfl fun w hI hi hw hwp=>?_
 refine ⟨_,st_ready hI hi (by rw [hw];exact hg) (by rw [hw];exact hr) (by rw [hw];exact ha) (u:=u) (by rw [hw];exact hu) (by rw [hw];exact hle),fun k hk=>put_other w _ hk,?_,rfl,rfl⟩
 show (w.put i _).c i=_
 rw [put_same,hw];rfl
def haV (c:CoT):HaT:=(true,(0,0,frZ),c.prom,c.want)
def coInst (c:CoT):CoT:=(c.1,c.2.1,c.2.2.1,c.2.2.2.1,c.prom,c.want,replicate 8 0,[],c.prom,c.want,replicate 8 0,false,c.2.2.2.2.2.2.2.2.2.2.2.2)
theorem gt_zero:gt (replicate 8 0)=fun _=>0:=by funext k;exact getD_zero k
theorem St.install {n i B:Nat} {w0:MW FrT} {in0:Int} {c:CoT} {l:List HaT} (s:St n i B w0 in0 c l) (hl2:l.length+1≤B) (hr:c.ready=true) (hd:Done (mc c) i):St n i B w0 in0 (coInst c) (l++[haV c]):=by
 have ok:=s.ok
 refine s.tell (haV c) ⟨⟨by simp [haV],by simp [haV,U],okFr_zero⟩,ok.prom,ok.want⟩ hl2 ⟨ok.i8,ok.self,ok.wait,ok.own,ok.beat,ok.prom,ok.want,ok8_zero,fun _ h=>absurd h (List.not_mem_nil),Nat.zero_le _,ok.prom,ok.want,ok8_zero,ok.plen,ok.peers,ok.epoch⟩ rfl rfl fun w hI hi hw hpk=>?_
 refine ⟨_,st_install hI hi (t:=mto i c.own (rk c.conf) (haV c)) (by rw [hw];exact ⟨rfl,rfl,rfl,rfl,rfl,rfl⟩) (by rw [hw];exact hr) (by rw [hw];exact hd),fun j hj=>put_other w _ hj,?_,rfl,rfl⟩
 rw [add_same,hw]
 have e:(fun (k:Nat) (r:Int) (f:FrT)=>((k:Int),r,f)∈([]:List KpT))=fun _ _ _=>False:=by
  funext k r f;simp
 show _=({ mc c with conf:=rk c.prom,mem:=gt c.want,cnt:=gt (replicate 8 0),cut:=gt (replicate 8 0),ready:=false,kept:=fun (k:Nat) r f=>((k:Int),r,f)∈([]:List KpT) }:MC FrT)
 rw [e,gt_zero];rfl
theorem f_goOn {n i B:Nat} {w0:MW FrT} {in0:Int} {c:CoT} {l:List HaT} (s:St n i B w0 in0 c l) (hB:B≤800000) (hl2:l.length+1≤B):∃c':CoT,∃l':List HaT,F_core_under_goOn (c,l)=some (c',l')∧St n i B w0 in0 c' l'∧l'.length≤l.length+1∧c'.kept.length≤c.kept.length:=by
 unfold F_core_under_goOn F_core_Gathers
 have ok:=s.ok
 simp only [Option.bind_some]
 by_cases hg:Sh.eqb S36 c.prom c.conf=true
 ·have hg':Sh.eqb S36 c.2.2.2.2.2.2.2.2.1 c.2.2.2.2.1=true:=hg
  rw [if_pos (by rw [hg'];rfl)]
  exact ⟨c,l,rfl,s,by omega,Nat.le_refl _⟩
 ·have hg':Sh.eqb S36 c.2.2.2.2.2.2.2.2.1 c.2.2.2.2.1=false:=by simpa using hg
  have hgr:rk c.prom≠rk c.conf:=fun q=>hg (eqI.2 (rk_inj ok.prom.ok ok.conf.ok q))
  rw [if_neg (by rw [hg'];decide)]
  -- ready?
  have key:∃z:Bool,(if (!c.2.2.2.2.2.2.2.2.2.2.2.1)=true then (F_gather_All c).bind fun t4=>(if (t4)=true then (F_gather_Target c).bind fun t5=>((F_cut_Within t5 c.2.2.2.2.2.2.1).bind fun t6=>(some t6)) else some false) else some false:Option Bool)=some z∧(z=true→c.ready=false∧All (mc c) i∧∃u,Tgt (mc c) i u∧∀f,u f≤gt c.cnt f):=by
   by_cases hr:c.ready=true
   ·have hr':c.2.2.2.2.2.2.2.2.2.2.2.1=true:=hr
    rw [hr']
    exact ⟨false,rfl,by simp⟩
   ·have hr':c.2.2.2.2.2.2.2.2.2.2.2.1=false:=by simpa using hr
    rw [hr',if_pos (by decide)]
    obtain ⟨b,eb,hb⟩:=f_All ok
    rw [eb,Option.bind_some]
    cases b with
    | false=>exact ⟨false,rfl,by simp⟩
    | true =>
     obtain ⟨u,eu,u8,hu⟩:=f_Target ok
     obtain ⟨z,ez,hz⟩:=f_Within u8 ok.cnt
     rw [if_pos rfl,eu,Option.bind_some]
     have ez':F_cut_Within u c.2.2.2.2.2.2.1=some z:=ez
     rw [ez']
     refine ⟨z,rfl,fun q=>⟨hr',hb rfl,gt u,hu,fun f=>?_⟩⟩
     by_cases hf:f<8
     ·exact hz.1 q f hf
     ·rw [gt_ge u8.1 hf,gt_ge ok.cnt.1 hf];exact Int.le_refl _
  obtain ⟨z,ez,hz⟩:=key
  rw [ez,Option.bind_some]
  -- the core behind this
  have key2:∃c2:CoT,(if z=true then some ((c.1,c.2.1,c.2.2.1,c.2.2.2.1,c.2.2.2.2.1,c.2.2.2.2.2.1,c.2.2.2.2.2.2.1,c.2.2.2.2.2.2.2.1,c.2.2.2.2.2.2.2.2.1,c.2.2.2.2.2.2.2.2.2.1,c.2.2.2.2.2.2.2.2.2.2.1,true,c.2.2.2.2.2.2.2.2.2.2.2.2),()) else some (c,()):Option (CoT×Unit))=some (c2,())∧St n i B w0 in0 c2 l∧c2.kept=c.kept:=by
   cases z with
   | false=>exact ⟨c,rfl,s,rfl⟩
   | true =>
    obtain ⟨h1,h2,u,hu,hle⟩:=hz rfl
    exact ⟨_,rfl,s.ready hgr h1 h2 hu hle,rfl⟩
  obtain ⟨c2,e2,s2,ek⟩:=key2
  rw [e2,Option.bind_some]
  have ok2:=s2.ok
  by_cases hr:c2.ready=true
  ·have hr':c2.2.2.2.2.2.2.2.2.2.2.2.1=true:=hr
   rw [if_pos hr']
   obtain ⟨b,eb,hb⟩:=f_Done ok2
   rw [eb]
   simp only [Option.bind_some]
   cases b with
   | false=>exact ⟨c2,l,rfl,s2,by omega,by rw [ek];exact Nat.le_refl _⟩
   | true =>
    rw [if_pos rfl]
    unfold F_core_under_install
    rw [if_pos (apOk_s (by simp;omega) (by simp;omega))]
    exact ⟨coInst c2,l++[haV c2],rfl,s2.install hl2 hr (hb rfl),by simp,Nat.zero_le _⟩
  ·have hr':c2.2.2.2.2.2.2.2.2.2.2.2.1=false:=by simpa using hr
   rw [hr',if_neg (by decide)]
   simp only [Option.bind_some]
   rw [if_neg (by decide)]
   exact ⟨c2,l,rfl,s2,by omega,by rw [ek];exact Nat.le_refl _⟩
theorem f_frames {c:CoT} {l:List HaT} {xs:List KpT} (hl:l.length+xs.length≤1000000):F_core_under_frames (c,l) xs=some (c,l++xs.map haF):=by
 unfold F_core_under_frames
 have:=loop_for (N:=xs.length) (mk:=fun (k:Nat) (s:List HaT)=>((k:Int),s)) (body:=F_core_under_frames_b1 xs) (fun k s=>s++[haF (xs.getD k kpZ)]) (fun s=>s) (fun k s=>s=l++(xs.take k).map haF)
  (fun k s hk hs=>?_) (fun s _=>?_) (s:=l) (by simp)
 ·obtain ⟨e,i⟩:=this
  have e:loopO (F_core_under_frames_b1 xs) (0,l)=_:=e
  show (loopO (F_core_under_frames_b1 xs) (0,l)).bind _=_
  rw [e,Option.bind_some,i,List.take_length]
 ·refine ⟨?_,?_⟩
  ·simp only [F_core_under_frames_b1]
   rw [if_pos (by simp;omega),if_pos (by omega),if_pos (apOk_s (by rw [hs];simp;omega) (by rw [hs];simp;omega))]
   simp only [Int.toNat_natCast,wi (show k<1000000000000 by omega)]
   rfl
  ·rw [hs,List.take_add_one,List.getElem?_eq_getElem hk,getD_lt hk,List.map_append,List.append_assoc];rfl
 ·simp only [F_core_under_frames_b1]
  rw [if_neg (by simp)]
theorem f_begun {c:CoT} (hl:c.kept.length≤1000000):F_core_begun c=some (c,[]):=by
 unfold F_core_begun
 have:F_slices_Clone_api_Kept_api_Kept c.2.2.2.2.2.2.2.1=some c.kept:=f_cloneK hl
 rw [this];rfl
theorem f_fits {c:CoT} {i B:Nat} (ok:okCo i B c):F_core_fits c=some true:=by
 unfold F_core_fits
 have hs:c.1=(i:Int):=ok.self
 have ho:=ok.own
 have h8:=ok.i8
 rw [if_pos (by rw [hs];exact decide_eq_true (show (i:Int)≥0 by omega)),if_pos (by rw [hs];exact decide_eq_true (show (i:Int)<8 by omega))]
 have:(c.2.2.1 != 0)=true:=by
  have:c.own≠0:=by omega
  simpa using this
 rw [this];rfl
theorem f_cfunc {l:List Int} {H:Int→Option Bool} (hl:l.length≤1000000) (h:∀x∈l,∃b:Bool,H x=some b):∃b:Bool,F_slices_ContainsFunc_int_int l H=some b:=by
 unfold F_slices_ContainsFunc_int_int F_slices_IndexFunc_int_int
 have:=loop_first (N:=l.length) (mk:=fun (k:Nat)=>(k:Int)) (body:=F_slices_IndexFunc_int_int_b1 l H) (fun k=>(H (l.getD k 0)).getD false) (fun k=>Sum.inl (k:Int)) (Sum.inr ()) (fun i hi=>?_) ?_
 ·have this:loopO (F_slices_IndexFunc_int_int_b1 l H) 0=_:=this
  rw [this]
  simp only [Option.bind_some]
  cases (List.range l.length).find? (fun k=>(H (l.getD k 0)).getD false)<;>exact ⟨_,rfl⟩
 ·simp only [F_slices_IndexFunc_int_int_b1]
  rw [if_pos (by simp;omega),if_pos (by omega)]
  simp only [Int.toNat_natCast,wi (show i<1000000000000 by omega)]
  obtain ⟨b,e⟩:=h (l.getD i 0) (by rw [getD_lt hi];exact List.getElem_mem hi)
  rw [e]
  simp only [Option.bind_some,Option.getD_some]
  cases b<;>rfl
 ·simp only [F_slices_IndexFunc_int_int_b1]
  rw [if_neg (by simp)]
theorem f_unsettled {c:CoT} {i B:Nat} (ok:okCo i B c) (l:List HaT) (r:List Int):∃b:Bool,F_core_under_unsettled (c,l) r=some b:=by
 unfold F_core_under_unsettled F_core_Gathers
 simp only [Option.bind_some]
 have key:∃z:Bool,(if (!(Sh.eqb S36 c.2.2.2.2.2.2.2.2.1 c.2.2.2.2.1))=true then some true else some (!(Sh.eqb (.arr 8 (.int .u32)) r c.2.2.2.2.2.1)):Option Bool)=some z:=by
  split<;>exact ⟨_,rfl⟩
 obtain ⟨z,ez⟩:=key
 rw [ez,Option.bind_some]
 cases z with
 | true=>exact ⟨true,rfl⟩
 | false =>
  rw [if_neg (by decide),f_List]
  simp only [Option.bind_some]
  refine (fun ⟨b,e⟩=>⟨b,by rw [e];rfl⟩) (f_cfunc (l:=idI r) (H:=fun x=>F_core_under_unsettled_1 x (c,l) r) (by have:=idI_len r;have:=idl_len r;omega) fun x hx=>?_)
  obtain ⟨k,rfl,hk,hm⟩:=mem_idI.1 hx
  unfold F_core_under_unsettled_1
  rw [if_pos (by omega)]
  dsimp only
  by_cases q1:((k:Int) != c.1)=true
  ·rw [if_pos q1,if_pos (by omega)]
   by_cases q2:((getD c.2.2.2.2.2.2.2.2.2.2.2.2.1 (toNat (k:Int)) S75.dflt).1==getD r (toNat (k:Int)) 0)=true
   ·rw [if_pos q2,f_Compare];exact ⟨_,rfl⟩
   ·rw [if_neg q2];exact ⟨_,rfl⟩
  ·rw [if_neg q1];exact ⟨_,rfl⟩
theorem f_emit {n i B:Nat} {w0:MW FrT} {in0:Int} {c:CoT} {l:List HaT} (s:St n i B w0 in0 c l) {f:FrT} (hf:okFr f) (hB:B≤800000) (hl:c.kept.length+1≤B) (hl2:l.length+1≤B) :
  ∃b:Bool,∃c':CoT,∃l':List HaT,F_core_under_emit (c,l) f=some (b,c',l')∧St n i B w0 in0 c' l'∧l'.length≤l.length+1∧c'.kept.length≤c.kept.length+1:=by
 unfold F_core_under_emit F_core_Gathers
 have ok:=s.ok
 have hs:c.1=(i:Int):=ok.self
 have h8:=ok.i8
 have hrg:0≤c.1∧c.1<((8:Nat):Int):=by rw [hs];omega
 have hti:c.1.toNat=i:=by rw [hs,Int.toNat_natCast]
 simp only [Option.bind_some]
 by_cases hg:Sh.eqb S36 c.prom c.conf=true
 ·have hg':Sh.eqb S36 c.2.2.2.2.2.2.2.2.1 c.2.2.2.2.1=true:=hg
  rw [if_neg (by rw [hg'];decide)]
  obtain ⟨b,eb,hb⟩:=f_May c.cnt c.mem (s:=c.1) hrg
  have eb':F_round_May c.2.2.2.2.2.2.1 c.2.2.2.2.2.1 c.1=some b:=eb
  rw [eb',Option.bind_some]
  cases b with
  | false=>exact ⟨false,c,l,rfl,s,by omega,by omega⟩
  | true =>
   obtain ⟨hm1,hm2⟩:=hb rfl
   rw [hti] at hm1 hm2
   rw [if_neg (by decide),if_pos hrg]
   have hcg:=ok8_get ok.cnt i
   simp only [Option.bind_some]
   by_cases hmax:c.cnt.getD i 0=4294967295
   ·have hmax':(getD c.2.2.2.2.2.2.1 (toNat c.1) 0==4294967295)=true:=by rw [hti];simpa using hmax
    rw [if_pos hmax']
    exact ⟨false,c,l,rfl,s,by omega,by omega⟩
   ·have hmax':¬(getD c.2.2.2.2.2.2.1 (toNat c.1) 0==4294967295)=true:=by rw [hti];simpa using hmax
    have ew:wrap .u32 (getD c.2.2.2.2.2.2.1 (toNat c.1) 0+1)=c.cnt.getD i 0+1:=by
     rw [hti]
     show wrap .u32 (c.cnt.getD i 0+1)=_
     exact wr32 (by omega)
    rw [if_neg hmax',if_pos hrg,ew,hs]
    have et:tkB c.cnt c.mem ((i:Int),c.cnt.getD i 0+1,f)=true:=tkB_iff.2 ⟨⟨i,rfl,h8,hm1⟩,by simpa using hmax,by simp⟩
    have eT:=f_kTake (l:=c.kept) (c:=c.cnt) (m:=c.mem) (x:=((i:Int),c.cnt.getD i 0+1,f)) (by omega) ok.cnt (by simp only;omega)
    rw [if_pos et] at eT
    have eT':F_kept_Take c.2.2.2.2.2.2.2.1 c.2.2.2.2.2.2.1 c.2.2.2.2.2.1 ((i:Int),c.cnt.getD i 0+1,f)=_:=eT
    rw [eT',Option.bind_some,if_pos rfl,f_frames (by simp;omega),Option.bind_some]
    have st:=s.emit hf hl hl2 (eqI.1 hg) (by omega) (fun j hj=>?_)
    ·refine ⟨true,coTake c ((i:Int),c.cnt.getD i 0+1,f),l++[haF ((i:Int),c.cnt.getD i 0+1,f)],?_,st,by simp,?_⟩
     ·unfold coTake
      rw [← hs]
      rfl
     ·have:=List.length_filter_le (keepB ((i:Int),c.cnt.getD i 0+1,f)) c.kept
      show (c.kept.filter (keepB ((i:Int),c.cnt.getD i 0+1,f))++[((i:Int),c.cnt.getD i 0+1,f)]).length≤_
      rw [List.length_append]
      show _+1≤_
      omega
    ·by_cases hj8:j<8
     ·exact hm2 j hj8 hj
     ·exact absurd (gt_ge ok.mem.1 hj8) hj
 ·have hg':Sh.eqb S36 c.2.2.2.2.2.2.2.2.1 c.2.2.2.2.1=false:=by simpa using hg
  rw [if_pos (by rw [hg'];rfl)]
  exact ⟨false,c,l,rfl,s,by omega,by omega⟩
theorem okCo_mono {i B B':Nat} {c:CoT} (h:okCo i B c) (hB:B≤B'):okCo i B' c :=
 ⟨h.i8,h.self,h.wait,h.own,h.beat,h.conf,h.mem,h.cnt,h.kept,Nat.le_trans h.klen hB,h.prom,h.want,h.cut,h.plen,h.peers,h.epoch⟩
theorem f_Tick {n i B:Nat} {w0:MW FrT} {c:CoT} (hI:InvM n w0) (hi:i<n) (hc:w0.c i=mc c) (ok:okCo i B c) (hB:B+9≤800000) {f:FrT} (hf:okFr f) :
  ∃c':CoT,∃b:Bool,∃l':List HaT,F_core_Tick c f=some (c',b,l')∧St n i (B+9) w0 (rk c.conf) c' l'∧l'.length≤2∧c'.kept.length≤B+1:=by
 unfold F_core_Tick
 have hk:=ok.klen
 rw [f_begun (by omega),Option.bind_some,f_fits ok,Option.bind_some,if_neg (by decide)]
 obtain ⟨b',eb,hb⟩:=f_bTick ok.beat
 have eb':F_beat_Tick c.2.2.2.1=some b':=eb
 have s0:=St.begin hI hi hc (okCo_mono ok (show B≤B+9 by omega))
 have s1:=s0.beat hb
 have hs:c.1=(i:Int):=ok.self
 have h8:=ok.i8
 dsimp only
 rw [eb',Option.bind_some]
 have ho:=ok.own
 obtain ⟨r,er,r8,hr⟩:=f_Reach hb (s:=c.1) (o:=c.own) (wt:=wrap .u32 c.2.1) (by rw [hs];omega) (by omega)
 have er':F_beat_Reach b' c.1 c.2.2.1 (wrap .u32 c.2.1)=some r:=er
 rw [er',Option.bind_some]
 rw [hs,Int.toNat_natCast] at hr
 obtain ⟨z,ez⟩:=f_unsettled s1.ok [] r
 rw [ez,Option.bind_some]
 have key:∃c2:CoT,(if z=true then (F_gather_Propose (c.1,c.2.1,c.2.2.1,b',c.2.2.2.2) r).bind fun t8=>(if t8.2=true then (F_core_under_promise ((c.1,c.2.1,c.2.2.1,b',c.2.2.2.2.1,c.2.2.2.2.2.1,c.2.2.2.2.2.2.1,c.2.2.2.2.2.2.2.1,c.2.2.2.2.2.2.2.2.1,c.2.2.2.2.2.2.2.2.2.1,c.2.2.2.2.2.2.2.2.2.2.1,c.2.2.2.2.2.2.2.2.2.2.2.1,c.2.2.2.2.2.2.2.2.2.2.2.2.1,t8.1.1),[]) t8.1 r).bind fun t9=>(some ((t9.1,()),t9.2)) else some (((c.1,c.2.1,c.2.2.1,b',c.2.2.2.2),()),[])) else some (((c.1,c.2.1,c.2.2.1,b',c.2.2.2.2),()),[]):Option ((CoT×Unit)×List HaT))=some ((c2,()),[])∧St n i (B+9) w0 (rk c.conf) c2 []∧c2.kept=c.kept:=by
  cases z with
  | false=>exact ⟨_,rfl,s1,rfl⟩
  | true =>
   obtain ⟨d,bd,ed,hd⟩:=f_Propose s1.ok r
   rw [if_pos rfl,ed,Option.bind_some]
   cases bd with
   | false=>exact ⟨_,rfl,s1,rfl⟩
   | true =>
    obtain ⟨h1,h2⟩:=hd rfl
    rw [if_pos rfl,h2]
    exact ⟨_,rfl,s1.propose r8 hr h1,rfl⟩
 obtain ⟨c2,e2,s2,ek⟩:=key
 rw [e2,Option.bind_some]
 have hkl:c2.kept.length≤B:=by rw [ek];exact hk
 obtain ⟨c3,l3,e3,s3,hl3,hk3⟩:=f_goOn s2 (by omega) (by simp)
 rw [e3,Option.bind_some]
 have hl3:l3.length≤1:=by simpa using hl3
 obtain ⟨b4,c4,l4,e4,s4,hl4,hk4⟩:=f_emit s3 hf (by omega) (by omega) (by omega)
 rw [e4,Option.bind_some]
 exact ⟨c4,b4,l4,rfl,s4,by omega,by omega⟩
theorem f_bounds {c:CoT} {i B:Nat} (ok:okCo i B c) (l:List HaT):∃most:List Int,∃b:Bool,F_core_under_bounds (c,l)=some (most,b)∧ok8 most∧(b=true→rk c.prom=rk c.conf∨(rk c.prom≠rk c.conf∧c.ready=false∧All (mc c) i∧Tgt (mc c) i (gt most))):=by
 unfold F_core_under_bounds F_core_Gathers
 have hs:c.1=(i:Int):=ok.self
 have h8:=ok.i8
 have hrg:0≤c.1∧c.1<((8:Nat):Int):=by rw [hs];omega
 simp only [Option.bind_some]
 by_cases hg:Sh.eqb S36 c.prom c.conf=true
 ·have hg':Sh.eqb S36 c.2.2.2.2.2.2.2.2.1 c.2.2.2.2.1=true:=hg
  rw [if_pos (by rw [hg'];rfl)]
  have:=loop_for (N:=8) (mk:=fun (k:Nat) (s:List Int)=>((k:Int),s)) (body:=F_core_under_bounds_b1 (c,l)) (fun k s=>s.set k (c.cnt.getD i 0)) (fun s=>s) (fun k s=>ok8 s)
   (fun k s hk hs=>?_) (fun s _=>?_) (s:=replicate 8 0) ok8_zero
  ·obtain ⟨e,i8⟩:=this
   have e:loopO (F_core_under_bounds_b1 (c,l)) (0,replicate 8 0)=_:=e
   rw [e,Option.bind_some]
   exact ⟨_,true,rfl,i8,fun _=>.inl (by rw [eqI.1 hg])⟩
  ·refine ⟨?_,ok8_set hs (ok8_get ok.cnt i)⟩
   simp only [F_core_under_bounds_b1]
   rw [if_pos (by simp;omega),if_pos hrg,if_pos (by omega)]
   have hs:c.1=(i:Int):=ok.self
   simp only [Int.toNat_natCast,wi (show k<1000000000000 by omega)]
   rw [hs,Int.toNat_natCast]
  ·simp only [F_core_under_bounds_b1]
   rw [if_neg (by simp)]
 ·have hg':Sh.eqb S36 c.2.2.2.2.2.2.2.2.1 c.2.2.2.2.1=false:=by simpa using hg
  have hgr:rk c.prom≠rk c.conf:=fun q=>hg (eqI.2 (rk_inj ok.prom.ok ok.conf.ok q))
  rw [if_neg (by rw [hg'];decide)]
  by_cases hr:c.ready=true
  ·have hr':c.2.2.2.2.2.2.2.2.2.2.2.1=true:=hr
   rw [hr']
   exact ⟨replicate 8 0,false,rfl,ok8_zero,by simp⟩
  ·have hr':c.2.2.2.2.2.2.2.2.2.2.2.1=false:=by simpa using hr
   rw [hr',if_pos (by decide)]
   obtain ⟨b,eb,hb⟩:=f_All ok
   rw [eb]
   simp only [Option.bind_some]
   cases b with
   | false=>exact ⟨replicate 8 0,false,rfl,ok8_zero,by simp⟩
   | true =>
    obtain ⟨u,eu,u8,hu⟩:=f_Target ok
    rw [if_pos rfl,eu,Option.bind_some]
    exact ⟨u,true,rfl,u8,fun _=>.inr ⟨hgr,hr',hb rfl,hu⟩⟩
theorem St.offers {n i B:Nat} {w0:MW FrT} {in0:Int} {most:List Int} {conf:I3}:∀(xs:List KpT) (c:CoT) (l:List HaT) (tk:List KpT),St n i B w0 in0 c l→c.conf=conf→c.kept.length+xs.length≤B→l.length+xs.length≤B →
  (∀x∈xs,okKp x)→(∀x∈xs,1≤x.2.1→∀w,InvM n w→w.pk=w0.pk→Own w.told (rk conf) x.1.toNat x.2.1 x.2.2) →
  (rk c.prom=rk c.conf∨(rk c.prom≠rk c.conf∧c.ready=false∧All (mc c) i∧Tgt (mc c) i (gt most))) →
  ∃new:List KpT,(xs.foldl (offStep c.mem most) (c.kept,c.cnt,tk)).2.2=tk++new∧new.length≤xs.length∧(xs.foldl (offStep c.mem most) (c.kept,c.cnt,tk)).1.length≤c.kept.length+xs.length ∧
   St n i B w0 in0 (c.1,c.2.1,c.2.2.1,c.2.2.2.1,c.conf,c.mem,(xs.foldl (offStep c.mem most) (c.kept,c.cnt,tk)).2.1,(xs.foldl (offStep c.mem most) (c.kept,c.cnt,tk)).1,c.2.2.2.2.2.2.2.2) (l++new.map haF):=by
 intro xs
 induction xs with
 | nil =>
  intro c l tk s _ _ _ _ _ _
  exact ⟨[],by simp,Nat.le_refl _,Nat.le_refl _,by simpa using s⟩
 | cons x xs ih =>
  intro c l tk s ec h1 h2 h3 h4 h5
  simp only [List.length_cons] at h1 h2⊢
  rw [List.foldl_cons]
  have hx:=h3 x (List.mem_cons_self ..)
  by_cases q1:x.1≥8∨x.2.1>most.getD x.1.toNat 0
  ·have e:offStep c.mem most (c.kept,c.cnt,tk) x=(c.kept,c.cnt,tk):=if_pos q1
   rw [e]
   obtain ⟨new,a1,a2,a3,a4⟩:=ih c l tk s ec (by omega) (by omega) (fun y hy=>h3 y (List.mem_cons_of_mem _ hy)) (fun y hy=>h4 y (List.mem_cons_of_mem _ hy)) h5
   exact ⟨new,a1,by omega,by omega,a4⟩
  ·by_cases q2:tkB c.cnt c.mem x=true
   ·have e:offStep c.mem most (c.kept,c.cnt,tk) x=(c.kept.filter (keepB x)++[x],c.cnt.set x.1.toNat x.2.1,tk++[x]):=by
     unfold offStep
     rw [if_neg q1]
     exact if_pos q2
    rw [e]
    have hr:1≤x.2.1:=by
     have:=(tkB_iff.1 q2).2.2
     have:=ok8_get s.ok.cnt x.1.toNat
     omega
    have st:=s.take hx q2 (by omega) (by omega) (by rw [ec];exact h4 x (List.mem_cons_self ..) hr) (by
     rcases h5 with h5|⟨b1,b2,b3,b4⟩
     ·exact .inl h5
     ·refine .inr ⟨b1,b2,b3,_,b4,?_⟩
      have:¬x.2.1>most.getD x.1.toNat 0:=fun q=>q1 (.inr q)
      show x.2.1≤most.getD x.1.toNat 0
      omega)
    have hkl:(coTake c x).kept.length≤c.kept.length+1:=by
     have:=List.length_filter_le (keepB x) c.kept
     show (c.kept.filter (keepB x)++[x]).length≤_
     rw [List.length_append]
     show _+1≤_
     omega
    obtain ⟨new,a1,a2,a3,a4⟩:=ih (coTake c x) (l++[haF x]) (tk++[x]) st ec (by omega) (by rw [List.length_append];show _+1+_≤_;omega) (fun y hy=>h3 y (List.mem_cons_of_mem _ hy)) (fun y hy=>h4 y (List.mem_cons_of_mem _ hy)) (h5.elim .inl fun ⟨b1,b2,b3,b4⟩=>.inr ⟨b1,b2,b3,⟨b4.own,b4.all,b4.ex⟩⟩)
    refine ⟨x::new,?_,by simp;omega,?_,?_⟩
    ·have a1:(xs.foldl (offStep c.mem most) (c.kept.filter (keepB x)++[x],c.cnt.set x.1.toNat x.2.1,tk++[x])).2.2=_:=a1
     rw [a1];simp
    ·have a3:(xs.foldl (offStep c.mem most) (c.kept.filter (keepB x)++[x],c.cnt.set x.1.toNat x.2.1,tk++[x])).1.length≤_:=a3
     omega
    ·have:l++(x::new).map haF=(l++[haF x])++new.map haF:=by simp
     rw [this]
     exact a4
   ·have e:offStep c.mem most (c.kept,c.cnt,tk) x=(c.kept,c.cnt,tk):=by
     unfold offStep
     rw [if_neg q1]
     exact if_neg q2
    rw [e]
    obtain ⟨new,a1,a2,a3,a4⟩:=ih c l tk s ec (by omega) (by omega) (fun y hy=>h3 y (List.mem_cons_of_mem _ hy)) (fun y hy=>h4 y (List.mem_cons_of_mem _ hy)) h5
    exact ⟨new,a1,by omega,by omega,a4⟩
theorem offL_ok {p:PkT} (hp:okPk p):(offL p).length≤3∧(∀x∈offL p,okKp x)∧∀{n:Nat} {w:MW FrT},InvM n w→w.pk (mpk p)→∀x∈offL p,1≤x.2.1→Own w.told (rk p.2.2.1) x.1.toNat x.2.1 x.2.2:=by
 have hr:=hp.round
 unfold U at hr
 refine ⟨by unfold offL;split<;>simp,fun x hx=>?_,fun {n w} hI hw x hx h1=>?_⟩
 ·unfold offL at hx
  rw [List.mem_append] at hx
  rcases hx with hx|hx
  ·split at hx
   ·obtain rfl:=List.mem_singleton.1 hx
    exact ⟨hp.a,by show U (p.2.2.2.2.2.2.2.2.2.1-1);unfold U;omega,hp.o⟩
   ·cases hx
  ·simp only [List.mem_cons,List.not_mem_nil,or_false] at hx
   rcases hx with rfl|rfl
   ·exact ⟨hp.a,hp.round,hp.n⟩
   ·exact ⟨hp.rof,hp.rr,hp.r⟩
 ·have hP:=hI.p _ hw
  unfold offL at hx
  rw [List.mem_append] at hx
  rcases hx with hx|hx
  ·split at hx
   ·rename_i q
    obtain rfl:=List.mem_singleton.1 hx
    exact hP.f2 (by show 1<p.2.2.2.2.2.2.2.2.2.1;omega)
   ·cases hx
  ·simp only [List.mem_cons,List.not_mem_nil,or_false] at hx
   rcases hx with rfl|rfl
   ·exact hP.f1 h1
   ·exact hP.f3 h1
theorem f_Receive {n i B:Nat} {w0:MW FrT} {c:CoT} (hI:InvM n w0) (hi:i<n) (hc:w0.c i=mc c) (ok:okCo i B c) (hB:B+9≤700000) {p:PkT} (hp:okPk p) (hpk:w0.pk (mpk p)) :
  ∃c':CoT,∃b:Bool,∃l':List HaT,F_core_Receive c p=some (c',b,l')∧St n i (B+9) w0 (rk c.conf) c' l'∧l'.length≤4∧c'.kept.length≤B+3:=by
 unfold F_core_Receive
 have hk:=ok.klen
 have ha:=hp.a
 have hinc:=hp.inc
 have hs:c.1=(i:Int):=ok.self
 have h8:=ok.i8
 have s0:=St.begin hI hi hc (okCo_mono ok (show B≤B+9 by omega))
 rw [f_begun (by omega),Option.bind_some]
 dsimp only
 obtain ⟨b',bo,eb,hb,hbo⟩:=f_Hear ok.beat (i:=wrap .i64 p.1) (inc:=p.2.1) (by rw [wr (by omega)];omega) hinc
 have eb':F_beat_Hear c.2.2.2.1 (wrap .i64 p.1) p.2.1=some (b',bo):=eb
 rw [eb',Option.bind_some,f_fits ok]
 simp only [Option.bind_some]
 rw [if_neg (by decide),wr (x:=p.1) (by omega)]
 have key0:∃z:Bool,(if (p.1==c.1)=true then some true else some (!bo):Option Bool)=some z:=by
  split<;>exact ⟨_,rfl⟩
 obtain ⟨z0,ez0⟩:=key0
 rw [ez0]
 simp only [Option.bind_some]
 cases z0 with
 | true=>exact ⟨c,false,[],rfl,s0,by simp,by omega⟩
 | false =>
  have hrg:0≤p.1∧p.1<((8:Nat):Int):=by omega
  rw [if_neg (by decide),if_pos hrg]
  have hk8:p.1.toNat<8:=by omega
  obtain ⟨y,ey,hy,hu⟩:=f_Update (okPe_get ok hk8) hp
  have ey':F_gather_Update (getD c.2.2.2.2.2.2.2.2.2.2.2.2.1 (toNat p.1) S75.dflt) p=some y:=ey
  rw [ey',Option.bind_some,if_pos hrg]
  have ho:=ok.own
  have hep:=ok.epoch
  have hep2:=hp.epoch
  have hep3:=hp.prom.ok.a
  unfold U at hep hep2
  have s1:=(s0.beat hb).peer hp hpk hy hu
  have s2:=s1.epoch (e:=mx (mx c.epoch p.2.2.2.2.2.2.2.2.1) p.2.2.2.2.2.1.1) (by rw [mxe,mxe];unfold U;omega) (by rw [mxe,mxe];show c.epoch≤_;omega)
  obtain ⟨ba,ea,hba⟩:=f_Adopt ok.prom.ok (i:=c.1) (o:=c.own) hp
  have ea':F_gather_Adopt c.2.2.2.2.2.2.2.2.1 c.1 c.2.2.1 p=some ba:=ea
  rw [ea',Option.bind_some]
  have key:∃c2:CoT,(if ba=true then (F_core_under_promise ((c.1,c.2.1,c.2.2.1,b',c.2.2.2.2.1,c.2.2.2.2.2.1,c.2.2.2.2.2.2.1,c.2.2.2.2.2.2.2.1,c.2.2.2.2.2.2.2.2.1,c.2.2.2.2.2.2.2.2.2.1,c.2.2.2.2.2.2.2.2.2.2.1,c.2.2.2.2.2.2.2.2.2.2.2.1,List.set c.2.2.2.2.2.2.2.2.2.2.2.2.1 (toNat p.1) y,mx (mx c.2.2.2.2.2.2.2.2.2.2.2.2.2 p.2.2.2.2.2.2.2.2.1) p.2.2.2.2.2.1.1),[]) p.2.2.2.2.2.1 p.2.2.2.2.2.2.1).bind fun t9=>(some ((t9.1,()),t9.2))
    else some (((c.1,c.2.1,c.2.2.1,b',c.2.2.2.2.1,c.2.2.2.2.2.1,c.2.2.2.2.2.2.1,c.2.2.2.2.2.2.2.1,c.2.2.2.2.2.2.2.2.1,c.2.2.2.2.2.2.2.2.2.1,c.2.2.2.2.2.2.2.2.2.2.1,c.2.2.2.2.2.2.2.2.2.2.2.1,List.set c.2.2.2.2.2.2.2.2.2.2.2.2.1 (toNat p.1) y,mx (mx c.2.2.2.2.2.2.2.2.2.2.2.2.2 p.2.2.2.2.2.2.2.2.1) p.2.2.2.2.2.1.1),()),[]):Option ((CoT×Unit)×List HaT))=some ((c2,()),[])∧St n i (B+9) w0 (rk c.conf) c2 []∧c2.kept=c.kept∧c2.conf=c.conf:=by
   cases ba with
   | false=>exact ⟨_,rfl,s2,rfl,rfl⟩
   | true =>
    obtain ⟨h1,h2⟩:=hba rfl
    rw [if_pos rfl]
    rw [hs,Int.toNat_natCast] at h2
    exact ⟨_,rfl,s2.adopt hp hpk h1 h2 (by show p.2.2.2.2.2.1.1≤mx (mx c.epoch p.2.2.2.2.2.2.2.2.1) p.2.2.2.2.2.1.1;rw [mxe,mxe];omega),rfl,rfl⟩
  obtain ⟨c2,e2,s3,ek2,ec2⟩:=key
  rw [e2]
  simp only [Option.bind_some]
  have ok2:=s3.ok
  obtain ⟨most,bm,em,m8,hm⟩:=f_bounds ok2 []
  rw [em,Option.bind_some]
  have key3:∃z3:Bool,(if bm=true then some (Sh.eqb S36 p.2.2.1 c2.2.2.2.2.1) else some false:Option Bool)=some z3∧(z3=true→bm=true∧p.2.2.1=c2.conf):=by
   cases bm with
   | false=>exact ⟨false,rfl,by simp⟩
   | true=>exact ⟨_,rfl,fun q=>⟨rfl,eqI.1 q⟩⟩
  obtain ⟨z3,ez3,hz3⟩:=key3
  simp only []
  rw [ez3]
  simp only [Option.bind_some]
  have hkl:c2.kept.length≤B:=by rw [ek2];exact hk
  have key4:∃c4:CoT,∃l4:List HaT,(if z3=true then (F_kept_Offer c2.2.2.2.2.2.2.2.1 c2.2.2.2.2.2.2.1 c2.2.2.2.2.2.1 p most).bind fun t7=>((F_core_under_frames ((c2.1,c2.2.1,c2.2.2.1,c2.2.2.2.1,c2.2.2.2.2.1,c2.2.2.2.2.2.1,t7.2.1,t7.1,c2.2.2.2.2.2.2.2.2),[]) t7.2.2).bind fun t8=>(some ((t8.1,()),t8.2))) else some ((c2,()),[]):Option ((CoT×Unit)×List HaT))=some ((c4,()),l4)∧St n i (B+9) w0 (rk c.conf) c4 l4∧l4.length≤3∧c4.kept.length≤B+3:=by
   cases z3 with
   | false=>exact ⟨c2,[],rfl,s3,by simp,by omega⟩
   | true =>
    obtain ⟨h1,h2⟩:=hz3 rfl
    obtain ⟨o1,o2,o3⟩:=offL_ok hp
    have hro:=hp.rof
    have eO:=f_Offer (l:=c2.kept) (c:=c2.cnt) (m:=c2.mem) (most:=most) (p:=p) (by omega) ok2.cnt m8 (by omega) hp.round (by omega) hp.rr
    have eO':F_kept_Offer c2.2.2.2.2.2.2.2.1 c2.2.2.2.2.2.2.1 c2.2.2.2.2.2.1 p most=_:=eO
    rw [if_pos rfl,eO',Option.bind_some]
    obtain ⟨new,a1,a2,a3,a4⟩:=St.offers (most:=most) (conf:=p.2.2.1) (offL p) c2 [] [] s3 h2.symm (by omega) (by simp;omega) o2 (fun x hx h1 w hIw hwp=>o3 hIw (by rw [hwp];exact hpk) x hx h1) (hm h1)
    rw [f_frames (by rw [a1];simp;omega),Option.bind_some]
    refine ⟨_,_,rfl,?_,?_,?_⟩
    ·rw [a1];exact a4
    ·rw [a1];simp;omega
    ·have:((offL p).foldl (offStep c2.mem most) (c2.kept,c2.cnt,[])).1.length≤B+3:=by omega
     exact this
  obtain ⟨c4,l4,e4,s4,hl4,hk4⟩:=key4
  rw [e4]
  simp only [Option.bind_some]
  obtain ⟨c5,l5,e5,s5,hl5,hk5⟩:=f_goOn s4 (by omega) (by omega)
  rw [e5]
  exact ⟨c5,true,l5,rfl,s5,by omega,by omega⟩
theorem okFr_of {l:List KpT} (h:∀x∈l,okKp x) {i r:Int} {fr:FrT} {b:Bool} (h1:b=true→(i,r,fr)∈l) (h2:b=false→fr=frZ):okFr fr:=by
 cases b with
 | true=>exact (h _ (h1 rfl)).f
 | false=>rw [h2 rfl];exact okFr_zero
theorem f_Packet {i B:Nat} {c:CoT} (ok:okCo i B c) (hB:B≤800000):∃p:PkT,F_core_Packet c=some p∧okPk p∧p.1=(i:Int)∧∀{n:Nat} {w:MW FrT},InvM n w→i<n→w.c i=mc c→IsP (mc c) i (mpk p):=by
 unfold F_core_Packet
 have hk:=ok.klen
 have hs:c.1=(i:Int):=ok.self
 have h8:=ok.i8
 have hrg:0≤c.1∧c.1<((8:Nat):Int):=by rw [hs];omega
 have hti:c.1.toNat=i:=by rw [hs,Int.toNat_natCast]
 have hcg:=ok8_get ok.cnt i
 have ho:=ok.own
 rw [f_fits ok,Option.bind_some,if_neg (by decide),if_pos hrg,hti]
 have ew:wrap .u32 c.1=(i:Int):=by rw [hs];exact wr32 (by omega)
 rw [ew,hs]
 obtain ⟨f1,b1,e1,g1,g1'⟩:=f_kGet (l:=c.kept) (by omega) (i:Int) (c.cnt.getD i 0)
 have e1':F_kept_Get c.2.2.2.2.2.2.2.1 (i:Int) (getD c.2.2.2.2.2.2.1 i 0)=some (f1,b1):=e1
 rw [e1',Option.bind_some]
 have hf1:okFr f1:=okFr_of ok.kept g1 (fun q=>(g1' q).1)
 have key:∃f2:FrT,(if (decide ((getD c.2.2.2.2.2.2.1 i 0)>0))=true then (F_kept_Get c.2.2.2.2.2.2.2.1 (i:Int) (wrap .u32 ((getD c.2.2.2.2.2.2.1 i 0)-1))).bind fun t5=>(some ((i:Int),c.2.2.1,c.2.2.2.2.1,c.2.2.2.2.2.1,c.2.2.2.2.2.2.1,c.2.2.2.2.2.2.2.2.1,c.2.2.2.2.2.2.2.2.2.1,c.2.2.2.2.2.2.2.2.2.2.2.1,c.2.2.2.2.2.2.2.2.2.2.2.2.2,getD c.2.2.2.2.2.2.1 i 0,f1,t5.1,0,0,frZ)) else some ((i:Int),c.2.2.1,c.2.2.2.2.1,c.2.2.2.2.2.1,c.2.2.2.2.2.2.1,c.2.2.2.2.2.2.2.2.1,c.2.2.2.2.2.2.2.2.2.1,c.2.2.2.2.2.2.2.2.2.2.2.1,c.2.2.2.2.2.2.2.2.2.2.2.2.2,getD c.2.2.2.2.2.2.1 i 0,f1,frZ,0,0,frZ):Option PkT)=some ((i:Int),c.own,c.conf,c.mem,c.cnt,c.prom,c.want,c.ready,c.epoch,c.cnt.getD i 0,f1,f2,0,0,frZ)∧okFr f2∧(1<c.cnt.getD i 0→∀f,((i:Int),c.cnt.getD i 0-1,f)∈c.kept→((i:Int),c.cnt.getD i 0-1,f2)∈c.kept):=by
  by_cases q:c.cnt.getD i 0>0
  ·have q':decide ((getD c.2.2.2.2.2.2.1 i 0)>0)=true:=decide_eq_true q
   obtain ⟨f2,b2,e2,g2,g2'⟩:=f_kGet (l:=c.kept) (by omega) (i:Int) (c.cnt.getD i 0-1)
   have e2':F_kept_Get c.2.2.2.2.2.2.2.1 (i:Int) (wrap .u32 (getD c.2.2.2.2.2.2.1 i 0-1))=some (f2,b2):=by
    rw [wr32 (show 0≤c.cnt.getD i 0-1∧c.cnt.getD i 0-1≤4294967295 by omega)];exact e2
   rw [if_pos q',e2',Option.bind_some]
   refine ⟨f2,rfl,okFr_of ok.kept g2 (fun q=>(g2' q).1),fun _ f hf=>?_⟩
   cases b2 with
   | true=>exact g2 rfl
   | false=>exact absurd hf ((g2' rfl).2 f)
  ·have q':¬decide ((getD c.2.2.2.2.2.2.1 i 0)>0)=true:=by simpa using q
   rw [if_neg q']
   exact ⟨frZ,rfl,okFr_zero,fun h=>by omega⟩
 obtain ⟨f2,e2,hf2,hn2⟩:=key
 erw [e2]
 unfold F_core_Gathers
 simp only [Option.bind_some]
 have key2:∃cn:List Int,(if (!(Sh.eqb S36 c.2.2.2.2.2.2.2.2.1 c.2.2.2.2.1))=true then some ((i:Int),c.own,c.conf,c.mem,c.2.2.2.2.2.2.2.2.2.2.1,c.prom,c.want,c.ready,c.epoch,c.cnt.getD i 0,f1,f2,0,0,frZ) else some ((i:Int),c.own,c.conf,c.mem,c.cnt,c.prom,c.want,c.ready,c.epoch,c.cnt.getD i 0,f1,f2,0,0,frZ):Option PkT)=some ((i:Int),c.own,c.conf,c.mem,cn,c.prom,c.want,c.ready,c.epoch,c.cnt.getD i 0,f1,f2,0,0,frZ)∧ok8 cn∧(rk c.prom≠rk c.conf→cn=c.cut):=by
  by_cases hg:Sh.eqb S36 c.prom c.conf=true
  ·have hg':Sh.eqb S36 c.2.2.2.2.2.2.2.2.1 c.2.2.2.2.1=true:=hg
   rw [hg',if_neg (by decide)]
   exact ⟨c.cnt,rfl,ok.cnt,fun h=>absurd (by rw [eqI.1 hg]) h⟩
  ·have hg':Sh.eqb S36 c.2.2.2.2.2.2.2.2.1 c.2.2.2.2.1=false:=by simpa using hg
   rw [hg',if_pos (by decide)]
   exact ⟨c.cut,rfl,ok.cut,fun _=>rfl⟩
 obtain ⟨cn,e3,hcn,hcn2⟩:=key2
 erw [e3]
 simp only [Option.bind_some]
 have hbt:=ok.beat.a
 obtain ⟨x,bx,e4,g4,g4'⟩:=f_kPick (l:=c.kept) (by omega) (n:=c.beat.1) hbt
 have e4':F_kept_Pick c.2.2.2.2.2.2.2.1 c.2.2.2.1.1=some (x,bx):=e4
 rw [e4',Option.bind_some]
 have main:∀(ro rr:Int) (fr:FrT),0≤ro∧ro≤7→U rr→okFr fr→(1≤rr→(ro,rr,fr)∈c.kept) →
   okPk ((i:Int),c.own,c.conf,c.mem,cn,c.prom,c.want,c.ready,c.epoch,c.cnt.getD i 0,f1,f2,ro,rr,fr)∧((i:Int),c.own,c.conf,c.mem,cn,c.prom,c.want,c.ready,c.epoch,c.cnt.getD i 0,f1,f2,ro,rr,fr).1=(i:Int) ∧
   ∀{n:Nat} {w:MW FrT},InvM n w→i<n→w.c i=mc c→IsP (mc c) i (mpk ((i:Int),c.own,c.conf,c.mem,cn,c.prom,c.want,c.ready,c.epoch,c.cnt.getD i 0,f1,f2,ro,rr,fr)):=by
  intro ro rr fr h1 h2 h3 h4
  refine ⟨⟨by simp only;omega,by show U c.own;unfold U;omega,ok.conf,ok.mem,hcn,ok.prom,ok.want,ok.epoch,hcg,hf1,hf2,h1,h2,h3⟩,rfl,fun {n w} hI hi hw=>?_⟩
  have hP:=hI.c i hi
  rw [hw] at hP
  refine ⟨by show toNat (i:Int)=i;simp,rfl,rfl,rfl,fun q=>by show gt cn=gt c.cut;rw [hcn2 q],rfl,rfl,rfl,fun q=>?_,fun q=>?_,fun q=>?_⟩
  ·have q:1≤c.cnt.getD i 0:=q
   obtain ⟨f,hf⟩:=hP.ko (c.cnt.getD i 0) q (by show c.cnt.getD i 0-3<_;omega) (Int.le_refl _)
   show ((i:Int),c.cnt.getD i 0,f1)∈c.kept
   cases b1 with
   | true=>exact g1 rfl
   | false=>exact absurd hf ((g1' rfl).2 f)
  ·have q:1<c.cnt.getD i 0:=q
   obtain ⟨f,hf⟩:=hP.ko (c.cnt.getD i 0-1) (by omega) (by show c.cnt.getD i 0-3<_;omega) (by show _≤c.cnt.getD i 0;omega)
   exact hn2 q f hf
  ·have q:1≤rr:=q
   show (((ro.toNat:Nat):Int),rr,fr)∈c.kept
   rw [show ((ro.toNat:Nat):Int)=ro by omega]
   exact h4 q
 cases bx with
 | true =>
  rw [if_pos rfl]
  have hx:=ok.kept x (g4 rfl)
  have hxa:=hx.a
  have ew2:wrap .u32 x.1=x.1:=wr32 (by omega)
  refine ⟨_,rfl,?_⟩
  have:=main x.1 x.2.1 x.2.2 hx.a hx.b hx.f (fun _=>g4 rfl)
  dsimp only
  erw [ew2]
  exact this
 | false =>
  rw [if_neg (by simp)]
  exact ⟨_,rfl,main 0 0 frZ (by omega) (by unfold U;omega) okFr_zero (fun h=>by omega)⟩
theorem mem_rep {α:Type} {n:Nat} {a x:α} (h:x∈replicate n a):x=a:=(List.mem_replicate.1 h).2
theorem f_Start {i:Nat} {o wt:Int} (h8:i<8) (ho:1≤o∧o≤4294967295):∃c:CoT,∃b:Bool,F_core_Start (i:Int) o wt=some (c,b)∧(b=decide (1≤wt∧wt≤1000))∧(b=true→okCo i 0 c∧IsB i o (mc c)∧c.own=o∧c.wait=wt):=by
 unfold F_core_Start
 rw [if_neg (by simp),if_neg (by simp;omega),if_neg (by simp;omega)]
 by_cases h1:wt<1
 ·rw [if_pos (by simpa using h1)]
  exact ⟨_,false,rfl,by simp;omega,by simp⟩
 ·rw [if_neg (by simpa using h1)]
  simp only [Option.bind_some]
  by_cases h2:wt>1000
  ·rw [if_pos (by simpa using h2)]
   exact ⟨_,false,rfl,by simp;omega,by simp⟩
  ·rw [if_neg (by simpa using h2),if_pos (by omega),Int.toNat_natCast,wr32 (by omega)]
   have hid:okId ((0:Int),(i:Int),o):=okId_new (by unfold U;omega) ⟨by omega,by omega⟩ h8
   have hm:ok8 ((replicate 8 (0:Int)).set i o):=ok8_set ok8_zero (by omega)
   refine ⟨_,true,rfl,by simp;omega,fun _=>⟨⟨h8,rfl,by show 1≤wt∧wt≤1000;omega,ho,⟨show (0:Int)≤0∧(0:Int)≤4294967295 by decide,ok8_zero,ok8_zero⟩,hid,hm,ok8_zero,fun x hx=>absurd hx (List.not_mem_nil),Nat.le_refl _,hid,hm,ok8_zero,rfl,fun x hx=>?_,by show U 0;unfold U;omega⟩,⟨rfl,rk_mk,?_,fun k=>getD_zero k,fun k r f=>by show ¬_∈([]:List KpT);simp,rfl,rfl,rfl,fun k=>?_,rfl⟩,rfl,rfl⟩⟩
   ·obtain rfl:=mem_rep hx
    exact ⟨by decide,⟨by decide,by decide,by decide⟩,⟨by decide,by decide,by decide⟩,ok8_zero⟩
   ·funext k
    show ((replicate 8 (0:Int)).set i o).getD k 0=_
    rw [getD_set (by simpa using h8),getD_zero]
   ·show (mpe ((replicate 8 ((0:Int),((0,0,0):I3),((0,0,0):I3),replicate 8 (0:Int),false)).getD k peZ)).inc=0
    rw [List.getD_eq_getElem?_getD,List.getElem?_replicate]
    split<;>rfl
theorem xor_nib {b x:Nat} (hb:b<16):b ^^^ (x*16)=b+x*16:=by
 apply Nat.eq_of_testBit_eq
 intro i
 have h:b+x*16=2^4*x+b:=by omega
 rw [h,Nat.testBit_xor,Nat.testBit_two_pow_mul_add _ hb,show x*16=2^4*x by omega,Nat.testBit_two_pow_mul]
 by_cases hi:i<4
 ·simp [hi,show ¬4≤i by omega]
 ·have:b.testBit i=false:=Nat.testBit_lt_two_pow (Nat.lt_of_lt_of_le hb (by have:=Nat.pow_le_pow_right (n:=2) (by decide) (show 4≤i by omega);simpa using this))
  simp [hi,this,show 4≤i by omega]
theorem nib_step (r:Nat):r/16 ^^^ sbits 4 (r%16)=sbits 4 r:=by
 have h:r=(r%16) ^^^ (r/16*16):=by rw [xor_nib (by omega)];omega
 have h2:=sbits_xor 4 (r%16) (r/16*16)
 rw [← h,sbits_shift 4 (r/16)] at h2
 rw [h2,Nat.xor_comm]
theorem sbits_one {k:Nat} {r:Nat}:sbits (k+1) r=sbit (sbits k r):=sbits_add k 1 r
theorem forN_sbits (k r:Nat):forN (fun _ r=>sbit r) k r=sbits k r:=by
 induction k with
 | zero=>rfl
 | succ k ih=>rw [forN,ih,sbits_one]
theorem fdivN (r b:Nat):Int.fdiv (r:Int) (b:Int)=((r/b:Nat):Int):=by
 rw [Int.fdiv_eq_ediv_of_nonneg _ (by omega)];rfl
theorem and_one (r:Nat):r &&& 1=r%2:=Nat.and_one_is_mod r
theorem f_bits {m:Nat} (hm:m<4294967296):loopO F_crc_nibbles_b2 ((m:Int),0)=some ((sbits 4 m:Nat):Int):=by
 have:=loop_for (N:=4) (mk:=fun (k:Nat) (r:Nat)=>((r:Int),(k:Int))) (body:=F_crc_nibbles_b2) (fun _ r=>sbit r) (fun r=>((r:Nat):Int)) (fun _ r=>r<4294967296) (fun k r hk hr=>?_) (fun r _=>?_) (s:=m) hm
 ·have e:loopO F_crc_nibbles_b2 ((m:Int),0)=_:=this.1
  rw [e,forN_sbits]
 ·refine ⟨?_,sbit_lt hr⟩
  simp only [F_crc_nibbles_b2]
  rw [if_pos (by simp;omega),wi (by omega)]
  have e1:bits .and .u32 (r:Int) 1=((r%2:Nat):Int):=by rw [show (1:Int)=((1:Nat):Int) from rfl,u32_and_nat _ _ hr (by decide),and_one]
  have e2:Int.fdiv (r:Int) (2^min (toNat 1) 32)=((r/2:Nat):Int):=by
   have:=fdivN r 2
   exact this
  rw [e1,e2]
  unfold sbit
  by_cases q:r%2=1
  ·rw [if_pos (by rw [q];rfl),if_pos q]
   have:=u32_xor_nat (r/2) 3988292384 (by omega) (by decide)
   rw [show (3988292384:Int)=((3988292384:Nat):Int) from rfl,this];rfl
  ·rw [if_neg (by simp;omega),if_neg q]
 ·simp only [F_crc_nibbles_b2]
  rw [if_neg (by simp)]
theorem f_nibbles:∃t:List Int,F_crc_nibbles=some t∧∀m:Nat,m<16→t.getD m 0=((sbits 4 m:Nat):Int):=by
 unfold F_crc_nibbles
 have:=loop_for (N:=16) (mk:=fun (k:Nat) (s:List Int)=>((k:Int),s)) (body:=F_crc_nibbles_b1) (fun k s=>s.set k ((sbits 4 k:Nat):Int)) (fun s=>s) (fun k s=>s.length=16∧∀m,m<k→s.getD m 0=((sbits 4 m:Nat):Int))
  (fun k s hk hs=>?_) (fun s _=>?_) (s:=replicate 16 0) ⟨by simp,fun m hm=>absurd hm (by omega)⟩
 ·obtain ⟨e,_,i⟩:=this
  have e:loopO F_crc_nibbles_b1 (0,replicate 16 0)=_:=e
  rw [e]
  exact ⟨_,rfl,i⟩
 ·refine ⟨?_,by rw [List.length_set];exact hs.1,fun m hm=>?_⟩
  ·simp only [F_crc_nibbles_b1]
   rw [if_pos (by simp;omega),wr32 (by omega),f_bits (by omega)]
   simp only [Option.bind_some]
   rw [if_pos (by omega),wi (by omega),Int.toNat_natCast]
  ·rw [getD_set (by rw [hs.1];exact hk)]
   by_cases q:m=k
   ·rw [if_pos q,q]
   ·rw [if_neg q,hs.2 m (by omega)]
 ·simp only [F_crc_nibbles_b1]
  rw [if_neg (by simp)]
theorem u8_lt32 (x:UInt8):x.toNat<4294967296:=Nat.lt_of_lt_of_le x.toNat_lt (by decide)
theorem crc_lt (l:List UInt8):crc l<4294967296:=by unfold crc;omega
theorem nib_fn {t:List Int} (ht:∀m:Nat,m<16→t.getD m 0=((sbits 4 m:Nat):Int)) {r:Nat} (hr:r<4294967296) :
  bits .and .u32 (r:Int) 15=((r%16:Nat):Int)∧bits .xor .u32 (Int.fdiv (r:Int) (2^min (toNat 4) 32)) (t.getD (r%16) 0)=((sbits 4 r:Nat):Int):=by
 refine ⟨?_,?_⟩
 ·rw [show (15:Int)=((15:Nat):Int) from rfl,u32_and_nat _ _ hr (by decide)]
  congr 1
  exact Nat.and_two_pow_sub_one_eq_mod r 4
 ·have e2:Int.fdiv (r:Int) (2^min (toNat 4) 32)=((r/16:Nat):Int):=fdivN r 16
  rw [ht _ (by omega),e2,u32_xor_nat _ _ (by omega) (sbits_lt (by omega)),nib_step]
theorem f_crcOf {x:Str} (hx:x.length≤1000000):F_crc_Of x=some ((crc x:Nat):Int):=by
 unfold F_crc_Of
 obtain ⟨t,et,ht⟩:=f_nibbles
 rw [et,Option.bind_some]
 have:=loop_for (N:=x.length) (mk:=fun (k:Nat) (r:Nat)=>((r:Int),(k:Int))) (body:=F_crc_Of_b1 t x) (fun k r=>sbyte r (x.getD k 0)) (fun r=>((r:Nat):Int)) (fun k r=>r<4294967296∧r=sall 4294967295 (x.take k)) (fun k r hk hr=>?_) (fun r _=>?_) (s:=4294967295) ⟨by decide,rfl⟩
 ·obtain ⟨e,i1,i2⟩:=this
  have e:loopO (F_crc_Of_b1 t x) (4294967295,0)=_:=e
  rw [e,Option.bind_some]
  rw [List.take_length] at i2
  rw [show (4294967295:Int)=((4294967295:Nat):Int) from rfl,u32_xor_nat _ _ (by decide) i1]
  congr 2
  unfold crc
  rw [← i2]
  have:=xor_ones i1
  have h3:=congrArg (fun z=>z ^^^ (4294967295-forN (fun k r=>sbyte r (x.getD k 0)) x.length 4294967295)) this
  simp only [Nat.xor_assoc,Nat.xor_self,Nat.xor_zero] at h3
  have h4:=congrArg (fun z=>4294967295 ^^^ z) h3
  simp only [← Nat.xor_assoc,Nat.xor_self,Nat.zero_xor] at h4
  exact h4
 ·obtain ⟨h1,h2⟩:=hr
  have hxr:r ^^^ (x.getD k 0).toNat<4294967296:=Nat.xor_lt_two_pow (n:=32) h1 (u8_lt32 _)
  refine ⟨?_,sbyte_lt h1 _,?_⟩
  ·simp only [F_crc_Of_b1]
   have hb:=u8_lt32 (x.getD k 0)
   have e0:bits .xor .u32 (r:Int) (wrap .u32 (((getD x k 0).toNat:Nat):Int))=((r ^^^ (x.getD k 0).toNat:Nat):Int):=by
    rw [wr32 (by omega),u32_xor_nat _ _ h1 hb]
   obtain ⟨k1,k2⟩:=nib_fn ht hxr
   obtain ⟨k3,k4⟩:=nib_fn ht (sbits_lt (n:=4) hxr)
   rw [if_pos (by simp;omega),if_pos (by omega)]
   simp only [Int.toNat_natCast]
   rw [e0,k1]
   simp only [Int.toNat_natCast]
   rw [k2,k3]
   simp only [Int.toNat_natCast]
   rw [k4,if_pos (by omega),if_pos (by omega),wi (by omega)]
   rw [← sbits_add]
   rfl
  ·rw [List.take_add_one,List.getElem?_eq_getElem hk,sall_append,← h2,getD_lt hk];rfl
 ·simp only [F_crc_Of_b1]
  rw [if_neg (by simp)]
theorem f_Seal {x:Str} (hx:x.length≤1000000):F_crc_Seal x=some (seal4 x):=by
 unfold F_crc_Seal
 rw [f_crcOf hx,Option.bind_some]
 have hc:=crc_lt x
 have e:iBy [wrap .u8 ((crc x:Nat):Int),wrap .u8 (Int.fdiv ((crc x:Nat):Int) (2^min (toNat 8) 32)),wrap .u8 (Int.fdiv ((crc x:Nat):Int) (2^min (toNat 16) 32)),wrap .u8 (Int.fdiv ((crc x:Nat):Int) (2^min (toNat 24) 32))]=four (crc x):=by
  have d1:Int.fdiv ((crc x:Nat):Int) (2^min (toNat 8) 32)=((crc x/256:Nat):Int):=fdivN _ 256
  have d2:Int.fdiv ((crc x:Nat):Int) (2^min (toNat 16) 32)=((crc x/65536:Nat):Int):=fdivN _ 65536
  have d3:Int.fdiv ((crc x:Nat):Int) (2^min (toNat 24) 32)=((crc x/16777216:Nat):Int):=fdivN _ 16777216
  rw [d1,d2,d3]
  have w8:∀n:Nat,UInt8.ofNat (toNat (wrap .u8 (n:Int)))=UInt8.ofNat n:=by
   intro n
   rw [IntKind.wrap_u8']
   apply UInt8.toNat_inj.1
   rw [UInt8.toNat_ofNat',UInt8.toNat_ofNat']
   omega
  simp only [iBy,List.map_cons,List.map_nil,w8,four]
 rw [e,if_pos (by simp [four,maxLen];omega)]
 rfl
theorem f_crcOk {x:Str} (hx:x.length≤1000000) (h4:4≤x.length):F_crc_Ok x=some (crcOk x):=by
 unfold F_crc_Ok
 have w:wrap .i64 (((length x:Nat):Int)-4)=((x.length-4:Nat):Int):=by rw [wr (by omega)];omega
 rw [w]
 rw [if_pos (by simp),if_pos ⟨by omega,by omega,by rw [Int.toNat_natCast];omega⟩,Int.toNat_natCast,List.drop_zero,f_Seal (by rw [List.length_take];omega)]
 simp only [Option.bind_some]
 congr 1
 rw [Bool.eq_iff_iff,beq_iff_eq,crcOk,decide_eq_true_iff]
 constructor
 ·intro e
  refine ⟨h4,?_⟩
  have h1:x=x.take (x.length-4)++x.drop (x.length-4):=(List.take_append_drop _ _).symm
  have h2:x.take (x.length-4)++x.drop (x.length-4)=x.take (x.length-4)++four (crc (x.take (x.length-4))):=h1.symm.trans e.symm
  exact List.append_cancel_left h2
 ·rintro ⟨_,e⟩
  unfold seal4
  rw [← e,List.take_append_drop]
theorem f_put {n:Int} {w:Int} (hw:1≤w∧w≤8):F_pack_Put n w=some (put n.toNat w.toNat):=by
 unfold F_pack_Put putZ
 rw [if_pos hw]
theorem f_take {n w:Nat} {r:Str} (hw:1≤w∧w≤8) (hn:n<256^w):F_pack_Take (put n w++r) (w:Int)=some ((n:Int),r,true):=by
 have h:1≤(w:Int)∧(w:Int)≤8∧(w:Int)≤((put n w++r).length:Int):=by
  rw [List.length_append,put_length];omega
 unfold F_pack_Take tkN tkR Go.Proofs.YtjcbamenfaoffaaGreatDoor.tkB
 have e1:take (toNat (w:Int)) (put n w++r)=put n w:=by rw [Int.toNat_natCast,List.take_left' (put_length n w)]
 have e2:drop (toNat (w:Int)) (put n w++r)=r:=by rw [Int.toNat_natCast,List.drop_left' (put_length n w)]
 rw [if_pos h,if_pos h,decide_eq_true h,e1,e2,val_put,Nat.mod_eq_of_lt hn]
theorem f_putText {s:Str} (h:s.length≤16):F_pack_PutText s 16=some (tput s 16,true):=by
 unfold F_pack_PutText ptS ptB
 rw [if_pos ⟨by decide,by decide,by omega⟩,decide_eq_true ⟨by decide,by decide,by omega⟩]
 rfl
theorem f_takeText {s r:Str} (h:s.length≤16) (hr:r.length≤1000):F_pack_TakeText (tput s 16++r) 16=some (s,r,true):=by
 unfold F_pack_TakeText ttT ttR ttB ttO
 have hl:(tput s 16++r).length≤9223372036854775000:=by rw [List.length_append,tput_length h];omega
 have e:ttake (tput s 16++r) (toNat 16)=some (s,r):=ttake_tput h (by decide)
 rw [if_pos hl,if_pos (by decide),e]
 rfl
theorem mxl {n:Nat} (h:n≤1000000):n≤maxLen:=by unfold maxLen;omega
theorem f_within (x y:Int):F_entry_within x y=some (decide (0≤x∧x<y)):=by
 unfold F_entry_within
 by_cases h:0≤x
 ·rw [if_pos (by simpa using h)];simp [h]
 ·rw [if_neg (by simpa using h)];simp [h]
theorem f_wide {w:Int} (h:1≤w∧w≤8):F_pack_wide w=some true:=by
 unfold F_pack_wide
 rw [if_pos (by simpa using h.1)]
 simp [h.2]
theorem f_Fits2 (x:Int):F_pack_Fits x 2=some (decide (0≤x∧x≤65535)):=by
 unfold F_pack_Fits
 rw [f_wide (by decide)]
 simp only [Option.bind_some]
 rw [if_pos trivial,if_neg (by decide),wr (by decide),if_pos (by decide)]
 simp only [Option.bind_some]
 have e:Int.fdiv x (2^min (toNat (8*2)) 64)=x/65536:=Int.fdiv_eq_ediv_of_nonneg x (b:=65536) (by decide)
 rw [e]
 congr 1
 rw [Bool.eq_iff_iff,beq_iff_eq,decide_eq_true_eq]
 omega
theorem f_Fits4 (x:Int):F_pack_Fits x 4=some (decide (U x)):=by
 unfold F_pack_Fits
 rw [f_wide (by decide)]
 simp only [Option.bind_some]
 rw [if_pos trivial,if_neg (by decide),wr (by decide),if_pos (by decide)]
 simp only [Option.bind_some]
 have e:Int.fdiv x (2^min (toNat (8*4)) 64)=x/4294967296:=Int.fdiv_eq_ediv_of_nonneg x (b:=4294967296) (by decide)
 rw [e]
 congr 1
 rw [Bool.eq_iff_iff,beq_iff_eq,decide_eq_true_eq]
 unfold U
 omega
theorem eqE {a b:EnT}:Sh.eqb S39 a b=true↔a=b:=eqb_iff (s:=S39) rfl a b
def inB (e:EnT):Bool:=decide (0≤e.2.1∧e.2.1<4)&&(decide (0≤e.2.2.1∧e.2.2.1<8)&&(decide (0≤e.2.2.2.1∧e.2.2.2.1≤65535)&&(decide (U e.2.2.2.2.1)&&decide (e.2.2.2.2.2.length≤16))))
theorem f_eCheck (e:EnT):∃r:Int,F_entry_Check e=some r∧(r=0↔okEn e):=by
 unfold F_entry_Check
 by_cases hz:e=enZ
 ·rw [if_pos (eqE.2 hz)]
  exact ⟨0,rfl,fun _=>.inl hz,fun _=>rfl⟩
 ·rw [if_neg (fun q=>hz (eqE.1 q)),f_within]
  have key:(if (decide (0≤e.2.1∧e.2.1<4))=true then (F_entry_within e.2.2.1 8).bind fun t2=>(if (t2)=true then (F_pack_Fits e.2.2.2.1 2).bind fun t3=>(if (t3)=true then (F_pack_Fits e.2.2.2.2.1 4).bind fun t4=>(if (t4)=true then some (decide (((length e.2.2.2.2.2:Nat):Int)≤16)) else some false) else some false) else some false) else some false:Option Bool)=some (inB e):=by
   unfold inB
   rw [f_within,f_Fits2,f_Fits4]
   simp only [Option.bind_some]
   have e1:decide (((length e.2.2.2.2.2:Nat):Int)≤16)=decide (e.2.2.2.2.2.length≤16):=by
    rw [Bool.eq_iff_iff,decide_eq_true_eq,decide_eq_true_eq];omega
   rw [e1]
   cases decide (0≤e.2.1∧e.2.1<4)<;>cases decide (0≤e.2.2.1∧e.2.2.1<8)<;>cases decide (0≤e.2.2.2.1∧e.2.2.2.1≤65535)<;>cases decide (U e.2.2.2.2.1)<;>rfl
  simp only [Option.bind_some]
  rw [key]
  simp only [Option.bind_some]
  have hin:inB e=true↔(0≤e.2.1∧e.2.1≤3)∧(0≤e.2.2.1∧e.2.2.1≤7)∧(0≤e.2.2.2.1∧e.2.2.2.1≤65535)∧U e.2.2.2.2.1∧e.2.2.2.2.2.length≤16:=by
   unfold inB
   simp only [Bool.and_eq_true,decide_eq_true_eq]
   omega
  by_cases hb:inB e=true
  ·rw [hb,if_neg (by decide)]
   have h1:=hin.1 hb
   by_cases k1:e.1=1
   ·rw [if_pos (by simpa using k1)]
    exact ⟨0,rfl,fun _=>.inr ⟨h1.1,h1.2.1,h1.2.2.1,h1.2.2.2.1,h1.2.2.2.2,.inl k1⟩,fun _=>rfl⟩
   ·rw [if_neg (by simpa using k1)]
    have key2:∃z:Bool,(if (e.1==2)=true then if (e.2.1==2)=true then some (e.2.2.2.2.2==[]) else some false else if (e.1==3)=true then if (e.2.1==2)=true then some (e.2.2.2.2.2==[]) else some false else some false:Option Bool)=some z∧(z=true↔(e.1=2∨e.1=3)∧e.2.1=2∧e.2.2.2.2.2=[]):=by
     by_cases q1:e.1=2
     ·rw [if_pos (by simpa using q1)]
      by_cases q2:e.2.1=2
      ·rw [if_pos (by simpa using q2)]
       exact ⟨_,rfl,by rw [beq_iff_eq];simp [q1,q2]⟩
      ·rw [if_neg (by simpa using q2)]
       exact ⟨false,rfl,by simp [q2]⟩
     ·rw [if_neg (by simpa using q1)]
      by_cases q3:e.1=3
      ·rw [if_pos (by simpa using q3)]
       by_cases q2:e.2.1=2
       ·rw [if_pos (by simpa using q2)]
        exact ⟨_,rfl,by rw [beq_iff_eq];simp [q3,q2]⟩
       ·rw [if_neg (by simpa using q2)]
        exact ⟨false,rfl,by simp [q2]⟩
      ·rw [if_neg (by simpa using q3)]
       exact ⟨false,rfl,by simp [q1,q3]⟩
    obtain ⟨z,ez,hz2⟩:=key2
    rw [ez]
    simp only [Option.bind_some]
    cases z with
    | true=>exact ⟨0,rfl,fun _=>.inr ⟨h1.1,h1.2.1,h1.2.2.1,h1.2.2.2.1,h1.2.2.2.2,.inr (hz2.1 rfl)⟩,fun _=>rfl⟩
    | false =>
     refine ⟨30,rfl,fun h=>by omega,fun h=>?_⟩
     rcases h with h|⟨_,_,_,_,_,h|h⟩
     ·exact absurd h hz
     ·exact absurd h k1
     ·exact absurd (hz2.2 h) (by decide)
  ·have hb':inB e=false:=by simpa using hb
   rw [hb',if_pos (by decide)]
   refine ⟨30,rfl,fun h=>by omega,fun h=>?_⟩
   rcases h with h|⟨a,b,c,d,f,_⟩
   ·exact absurd h hz
   ·exact absurd (hin.2 ⟨a,b,c,d,f⟩) hb
theorem f_eCheck0 {e:EnT} (h:okEn e):F_entry_Check e=some 0:=by
 obtain ⟨r,er,hr⟩:=f_eCheck e
 rw [er,hr.2 h]
structure En (e:EnT):Prop where
 a:0≤e.1∧e.1≤3
 b:0≤e.2.1∧e.2.1≤3
 c:0≤e.2.2.1∧e.2.2.1≤7
 d:0≤e.2.2.2.1∧e.2.2.2.1≤65535
 f:0≤e.2.2.2.2.1∧e.2.2.2.2.1≤4294967295
 g:e.2.2.2.2.2.length≤16
theorem okEn.en {e:EnT} (h:okEn e):En e:=by
 rcases h with rfl|⟨a,b,c,d,f,k⟩
 ·exact ⟨by decide,by decide,by decide,by decide,by decide,by decide⟩
 ·exact ⟨by omega,a,b,c,d,f⟩
def bE (e:EnT):Str:=put e.1.toNat 1++(put e.2.1.toNat 1++(put e.2.2.1.toNat 1++(put e.2.2.2.1.toNat 2++(put e.2.2.2.2.1.toNat 4++(tput e.2.2.2.2.2 16++[0,0])))))
theorem bE_len {e:EnT} (h:okEn e):(bE e).length=28:=by
 have:=h.en.g
 simp only [bE,List.length_append,put_length,tput_length this,List.length_cons,List.length_nil]
theorem f_eEncode {e:EnT} (h:okEn e):F_entry_Encode e=some (bE e,0):=by
 unfold F_entry_Encode
 obtain ⟨a,b,c,d,f,g⟩:=h.en
 have hl:=tput_length g
 rw [f_eCheck0 h,Option.bind_some,if_neg (by decide),f_putText g,Option.bind_some,wru (by omega),wru (by omega),wru (by omega),f_put (by decide),Option.bind_some,f_put (by decide),Option.bind_some]
 simp only []
 rw [if_pos (mxl (by simp [put_length])),f_put (by decide),Option.bind_some,if_pos (mxl (by simp [put_length])),f_put (by decide),Option.bind_some,if_pos (mxl (by simp [put_length])),f_put (by decide),Option.bind_some,if_pos (mxl (by simp [put_length])),if_pos (mxl (by simp only [List.length_append,put_length,hl];decide)),if_pos (mxl (by simp only [List.length_append,put_length,hl];decide))]
 simp only [bE,List.append_assoc]
 rfl
theorem toI {x:Int} (h:0≤x):((x.toNat:Nat):Int)=x:=by omega
theorem f_eDecStep {n w i:Nat} {r:Str} {l:List Int} (hi:i<5) (hw:1≤w∧w≤8) (hn:n<256^w) (hwd:getD (List.set (List.set (List.set (List.set (List.set (replicate 5 (0:Int)) 0 1) 1 1) 2 1) 3 2) 4 4) i 0=(w:Int)) :
  F_entry_Decode_b1 (put n w++r,(i:Int),l)=some (.inl (r,((i+1:Nat):Int),l.set i (n:Int))):=by
 simp only [F_entry_Decode_b1]
 rw [if_pos (by simp;omega),if_pos (by omega),Int.toNat_natCast,hwd,f_take hw hn]
 simp only [Option.bind_some]
 rw [if_pos (by omega),wi (by omega)]
theorem f_eDecode {e:EnT} (h:okEn e):F_entry_Decode (bE e)=some (e,0):=by
 unfold F_entry_Decode
 obtain ⟨a,b,c,d,f,g⟩:=h.en
 rw [if_neg (by rw [bE_len h];decide)]
 have hl:loopO F_entry_Decode_b1 (bE e,0,replicate 5 0)=some (tput e.2.2.2.2.2 16++[0,0],[e.1,e.2.1,e.2.2.1,e.2.2.2.1,e.2.2.2.2.1]):=by
  have s0:=f_eDecStep (n:=e.1.toNat) (w:=1) (i:=0) (r:=put e.2.1.toNat 1++(put e.2.2.1.toNat 1++(put e.2.2.2.1.toNat 2++(put e.2.2.2.2.1.toNat 4++(tput e.2.2.2.2.2 16++[0,0]))))) (l:=replicate 5 0) (by decide) (by decide) (by omega) rfl
  have s1:=f_eDecStep (n:=e.2.1.toNat) (w:=1) (i:=1) (r:=put e.2.2.1.toNat 1++(put e.2.2.2.1.toNat 2++(put e.2.2.2.2.1.toNat 4++(tput e.2.2.2.2.2 16++[0,0])))) (l:=(replicate 5 0).set 0 ((e.1.toNat:Nat):Int)) (by decide) (by decide) (by omega) rfl
  have s2:=f_eDecStep (n:=e.2.2.1.toNat) (w:=1) (i:=2) (r:=put e.2.2.2.1.toNat 2++(put e.2.2.2.2.1.toNat 4++(tput e.2.2.2.2.2 16++[0,0]))) (l:=((replicate 5 0).set 0 ((e.1.toNat:Nat):Int)).set 1 ((e.2.1.toNat:Nat):Int)) (by decide) (by decide) (by omega) rfl
  have s3:=f_eDecStep (n:=e.2.2.2.1.toNat) (w:=2) (i:=3) (r:=put e.2.2.2.2.1.toNat 4++(tput e.2.2.2.2.2 16++[0,0])) (l:=(((replicate 5 0).set 0 ((e.1.toNat:Nat):Int)).set 1 ((e.2.1.toNat:Nat):Int)).set 2 ((e.2.2.1.toNat:Nat):Int)) (by decide) (by decide) (by omega) rfl
  have s4:=f_eDecStep (n:=e.2.2.2.2.1.toNat) (w:=4) (i:=4) (r:=tput e.2.2.2.2.2 16++[0,0]) (l:=((((replicate 5 0).set 0 ((e.1.toNat:Nat):Int)).set 1 ((e.2.1.toNat:Nat):Int)).set 2 ((e.2.2.1.toNat:Nat):Int)).set 3 ((e.2.2.2.1.toNat:Nat):Int)) (by decide) (by decide) (by omega) rfl
  refine (loopO_go s0).trans ((loopO_go s1).trans ((loopO_go s2).trans ((loopO_go s3).trans ((loopO_go s4).trans ?_))))
  rw [toI a.1,toI b.1,toI c.1,toI d.1,toI f.1]
  refine loopO_end ?_
  simp only [F_entry_Decode_b1]
  rw [if_neg (by simp)]
  rfl
 rw [hl,Option.bind_some]
 simp only []
 rw [f_takeText g (by decide),Option.bind_some]
 have w1:wrap .i64 (getD [e.1,e.2.1,e.2.2.1,e.2.2.2.1,e.2.2.2.2.1] (toNat 0) 0)=e.1:=wr (by show -9223372036854775808≤e.1∧e.1≤_;omega)
 have w2:wrap .i64 (getD [e.1,e.2.1,e.2.2.1,e.2.2.2.1,e.2.2.2.2.1] (toNat 1) 0)=e.2.1:=wr (by show -9223372036854775808≤e.2.1∧e.2.1≤_;omega)
 have w3:wrap .i64 (getD [e.1,e.2.1,e.2.2.1,e.2.2.2.1,e.2.2.2.2.1] (toNat 2) 0)=e.2.2.1:=wr (by show -9223372036854775808≤e.2.2.1∧e.2.2.1≤_;omega)
 rw [w1,w2,w3]
 have e1:F_entry_Encode (e.1,e.2.1,e.2.2.1,getD [e.1,e.2.1,e.2.2.1,e.2.2.2.1,e.2.2.2.2.1] (toNat 3) 0,getD [e.1,e.2.1,e.2.2.1,e.2.2.2.1,e.2.2.2.2.1] (toNat 4) 0,e.2.2.2.2.2)=some (bE e,0):=f_eEncode h
 simp only []
 rw [e1]
 simp only [Option.bind_some]
 rw [if_neg (by decide),if_neg (by decide)]
 simp only [Option.bind_some]
 rw [if_neg (by simp)]
 rfl
def bF (f:FrT):Str:=f.flatMap fun l=>l.flatMap bE
theorem bF_six (a b c d e g:EnT):bF [[a,b],[c,d],[e,g]]=bE a++(bE b++(bE c++(bE d++(bE e++bE g)))):=by
 simp [bF]
theorem bF_len {f:FrT} (h:okFr f):(bF f).length=168:=by
 obtain ⟨a,b,c,d,e,g,rfl,ha,hb,hc,hd,he,hg⟩:=h
 rw [bF_six]
 simp only [List.length_append,bE_len ha,bE_len hb,bE_len hc,bE_len hd,bE_len he,bE_len hg]
theorem f_fCheckRow {f:FrT} {i:Nat} {a b:EnT} {ra rb:Int} (hf:getD f i (replicate 2 enZ)=[a,b]) (ea:F_entry_Check a=some ra) (eb:F_entry_Check b=some rb) :
  loopO (F_frame_Check_b2 (i:Int) f) 0=some (if ra≠0 then .inl ra else if rb≠0 then .inl rb else .inr ()):=by
 have hf':getD f (toNat (i:Int)) (replicate 2 (0,0,0,0,0,[]))=[a,b]:=hf
 have s0:F_frame_Check_b2 (i:Int) f 0=some (if ra≠0 then .inr (.inl ra) else .inl 1):=by
  simp only [F_frame_Check_b2]
  rw [if_pos (by simp),if_pos (by simp),hf']
  have:F_entry_Check (getD [a,b] (toNat 0) S39.dflt)=some ra:=ea
  rw [this,Option.bind_some,wr (by decide)]
  by_cases q:ra=0
  ·rw [if_neg (by simpa using q),if_neg (by simpa using q)];rfl
  ·rw [if_pos (by simpa using q),if_pos q]
 have s1:F_frame_Check_b2 (i:Int) f 1=some (if rb≠0 then .inr (.inl rb) else .inl 2):=by
  simp only [F_frame_Check_b2]
  rw [if_pos (by simp),if_pos (by simp),hf']
  have:F_entry_Check (getD [a,b] (toNat 1) S39.dflt)=some rb:=eb
  rw [this,Option.bind_some,wr (by decide)]
  by_cases q:rb=0
  ·rw [if_neg (by simpa using q),if_neg (by simpa using q)];rfl
  ·rw [if_pos (by simpa using q),if_pos q]
 have s2:F_frame_Check_b2 (i:Int) f 2=some (.inr (.inr ())):=by
  simp only [F_frame_Check_b2]
  rw [if_neg (by simp)]
 by_cases qa:ra=0
 ·rw [if_neg (by simpa using qa)] at s0⊢
  rw [loopO_go s0]
  by_cases qb:rb=0
  ·rw [if_neg (by simpa using qb)] at s1⊢
   rw [loopO_go s1,loopO_end s2]
  ·rw [if_pos qb] at s1⊢
   rw [loopO_end s1]
 ·rw [if_pos qa] at s0⊢
  rw [loopO_end s0]
theorem f_fCheck (a b c d e g:EnT):∃r:Int,F_frame_Check [[a,b],[c,d],[e,g]]=some r∧(r=0↔okFr [[a,b],[c,d],[e,g]]):=by
 obtain ⟨ra,ea,ha⟩:=f_eCheck a
 obtain ⟨rb,eb,hb⟩:=f_eCheck b
 obtain ⟨rc,ec,hc⟩:=f_eCheck c
 obtain ⟨rd,ed,hd⟩:=f_eCheck d
 obtain ⟨re,ee,he⟩:=f_eCheck e
 obtain ⟨rg,eg,hg⟩:=f_eCheck g
 have hok:okFr [[a,b],[c,d],[e,g]]↔ra=0∧rb=0∧rc=0∧rd=0∧re=0∧rg=0:=by
  rw [ha,hb,hc,hd,he,hg]
  constructor
  ·rintro ⟨a',b',c',d',e',g',q,h⟩
   simp only [List.cons.injEq,and_true] at q
   obtain ⟨⟨rfl,rfl⟩,⟨rfl,rfl⟩,rfl,rfl⟩:=q
   exact h
  ·intro h;exact ⟨a,b,c,d,e,g,rfl,h⟩
 have t0:=f_fCheckRow (f:=[[a,b],[c,d],[e,g]]) (i:=0) rfl ea eb
 have t1:=f_fCheckRow (f:=[[a,b],[c,d],[e,g]]) (i:=1) rfl ec ed
 have t2:=f_fCheckRow (f:=[[a,b],[c,d],[e,g]]) (i:=2) rfl ee eg
 have row:∀(i:Nat) (x y:Int),i<3→loopO (F_frame_Check_b2 (i:Int) [[a,b],[c,d],[e,g]]) 0=some (if x≠0 then .inl x else if y≠0 then .inl y else .inr ())→F_frame_Check_b1 [[a,b],[c,d],[e,g]] (i:Int)=some (if x≠0 then .inr (.inl x) else if y≠0 then .inr (.inl y) else .inl ((i+1:Nat):Int)):=by
  intro i x y hi h
  simp only [F_frame_Check_b1]
  rw [if_pos (by simp;omega),if_pos (by omega),h,wi (by omega)]
  by_cases qx:x=0
  ·subst qx
   by_cases qy:y=0
   ·subst qy;rfl
   ·simp [qy]
  ·simp [qx]
 have s0:=row 0 ra rb (by decide) t0
 have s1:=row 1 rc rd (by decide) t1
 have s2:=row 2 re rg (by decide) t2
 have s3:F_frame_Check_b1 [[a,b],[c,d],[e,g]] ((3:Nat):Int)=some (.inr (.inr ())):=by
  simp only [F_frame_Check_b1]
  rw [if_neg (by simp)]
 unfold F_frame_Check
 rw [hok]
 have z:(0:Int)=((0:Nat):Int):=rfl
 by_cases q0:ra=0
 ·by_cases q1:rb=0
  ·rw [if_neg (by simpa using q0),if_neg (by simpa using q1)] at s0
   rw [z,loopO_go s0]
   by_cases q2:rc=0
   ·by_cases q3:rd=0
    ·rw [if_neg (by simpa using q2),if_neg (by simpa using q3)] at s1
     rw [loopO_go s1]
     by_cases q4:re=0
     ·by_cases q5:rg=0
      ·rw [if_neg (by simpa using q4),if_neg (by simpa using q5)] at s2
       rw [loopO_go s2,loopO_end s3]
       exact ⟨0,rfl,by simp [q0,q1,q2,q3,q4,q5]⟩
      ·rw [if_neg (by simpa using q4),if_pos q5] at s2
       rw [loopO_end s2]
       exact ⟨rg,rfl,by simp [q5]⟩
     ·rw [if_pos q4] at s2
      rw [loopO_end s2]
      exact ⟨re,rfl,by simp [q4]⟩
    ·rw [if_neg (by simpa using q2),if_pos q3] at s1
     rw [loopO_end s1]
     exact ⟨rd,rfl,by simp [q3]⟩
   ·rw [if_pos q2] at s1
    rw [loopO_end s1]
    exact ⟨rc,rfl,by simp [q2]⟩
  ·rw [if_neg (by simpa using q0),if_pos q1] at s0
   rw [z,loopO_end s0]
   exact ⟨rb,rfl,by simp [q1]⟩
 ·rw [if_pos q0] at s0
  rw [z,loopO_end s0]
  exact ⟨ra,rfl,by simp [q0]⟩
theorem f_fCheck0 {f:FrT} (h:okFr f):F_frame_Check f=some 0:=by
 obtain ⟨a,b,c,d,e,g,rfl,h'⟩:=h
 obtain ⟨r,er,hr⟩:=f_fCheck a b c d e g
 rw [er,hr.2 ⟨a,b,c,d,e,g,rfl,h'⟩]
theorem f_write {x s:Str} (h:x.length+s.length≤1000000):F_strings_Builder_WriteString ((),byI x) s=some (((s.length:Nat):Int),(),(),byI (x++s)):=by
 unfold F_strings_Builder_WriteString
 have hl:(byI x).length=x.length:=by simp [byI]
 have:F_strings_Builder_copyCheck ((),((),byI x).2)=some ((),byI x):=rfl
 rw [this,Option.bind_some,if_pos (by simp only [hl];omega)]
 simp [byI]
theorem f_str (x:Str):F_strings_Builder_String ((),byI x)=some x:=by
 unfold F_strings_Builder_String
 rw [byS_byI]
theorem f_fEncRow {f:FrT} {i:Nat} {a b:EnT} {x:Str} (hx:x.length≤1000) (hf:getD f i (replicate 2 enZ)=[a,b]) (ha:okEn a) (hb:okEn b) (hi:i<3) :
  F_frame_Encode_b1 f ((i:Int),byI x)=some (.inl (((i+1:Nat):Int),byI (x++(bE a++bE b)))):=by
 have hf':getD f (toNat (i:Int)) (replicate 2 (0,0,0,0,0,[]))=[a,b]:=hf
 have la:=bE_len ha
 have lb:=bE_len hb
 have s0:F_frame_Encode_b2 ((i:Int),byI x) f (0,byI x)=some (.inl (1,byI (x++bE a))):=by
  simp only [F_frame_Encode_b2]
  rw [if_pos (by simp),if_pos (by simp),hf']
  have:F_entry_Encode (getD [a,b] (toNat 0) S39.dflt)=some (bE a,0):=f_eEncode ha
  rw [this,Option.bind_some,if_neg (by simp)]
  simp only []
  rw [f_write (by omega),Option.bind_some,wr (by decide)];rfl
 have s1:F_frame_Encode_b2 ((i:Int),byI x) f (1,byI (x++bE a))=some (.inl (2,byI ((x++bE a)++bE b))):=by
  simp only [F_frame_Encode_b2]
  rw [if_pos (by simp),if_pos (by simp),hf']
  have:F_entry_Encode (getD [a,b] (toNat 1) S39.dflt)=some (bE b,0):=f_eEncode hb
  rw [this,Option.bind_some,if_neg (by simp)]
  simp only []
  rw [f_write (by rw [List.length_append];omega),Option.bind_some,wr (by decide)];rfl
 have s2:F_frame_Encode_b2 ((i:Int),byI x) f (2,byI ((x++bE a)++bE b))=some (.inr (.inr (byI ((x++bE a)++bE b)))):=by
  simp only [F_frame_Encode_b2]
  rw [if_neg (by simp)]
 simp only [F_frame_Encode_b1]
 rw [if_pos (by simp;omega),if_pos (by omega),loopO_go s0,loopO_go s1,loopO_end s2,wi (by omega),List.append_assoc]
 rfl
theorem f_fEncode {f:FrT} (h:okFr f):F_frame_Encode f=some (bF f,0):=by
 obtain ⟨a,b,c,d,e,g,rfl,ha,hb,hc,hd,he,hg⟩:=h
 have l1:=bE_len ha
 have l2:=bE_len hb
 have l3:=bE_len hc
 have l4:=bE_len hd
 have s0:=f_fEncRow (f:=[[a,b],[c,d],[e,g]]) (i:=0) (x:=[]) (by decide) rfl ha hb (by decide)
 have s1:=f_fEncRow (f:=[[a,b],[c,d],[e,g]]) (i:=1) (x:=[]++(bE a++bE b)) (by simp;omega) rfl hc hd (by decide)
 have s2:=f_fEncRow (f:=[[a,b],[c,d],[e,g]]) (i:=2) (x:=([]++(bE a++bE b))++(bE c++bE d)) (by simp;omega) rfl he hg (by decide)
 have s3:F_frame_Encode_b1 [[a,b],[c,d],[e,g]] (((2+1:Nat):Int),byI ((([]++(bE a++bE b))++(bE c++bE d))++(bE e++bE g)))=some (.inr (.inr (byI ((([]++(bE a++bE b))++(bE c++bE d))++(bE e++bE g))))):=by
  simp only [F_frame_Encode_b1]
  rw [if_neg (by simp)]
 have hl:loopO (F_frame_Encode_b1 [[a,b],[c,d],[e,g]]) (0,[])=some (.inr (byI (bF [[a,b],[c,d],[e,g]]))):=by
  refine (loopO_go s0).trans ((loopO_go s1).trans ((loopO_go s2).trans ((loopO_end s3).trans ?_)))
  rw [bF_six]
  simp
 unfold F_frame_Encode
 rw [hl,Option.bind_some]
 simp only [Sum.elim_inr]
 rw [f_str];rfl
theorem f_fDecStep {x:EnT} (h:okEn x) {i j:Nat} (hi:i<3) (hj:j<2) {r:Str} {s0:Str} {F0 F:FrT} :
  F_frame_Decode_b2 (s0,(i:Int),F0) (bE x++r,(j:Int),F)=some (.inl (r,((j+1:Nat):Int),F.set i ((F.getD i (replicate 2 enZ)).set j x))):=by
 have hl:=bE_len h
 simp only [F_frame_Decode_b2]
 have e1:drop 0 (take (toNat 28) (bE x++r))=bE x:=by rw [List.drop_zero];exact List.take_left' hl
 have e2:drop (toNat 28) (take (length (bE x++r)) (bE x++r))=r:=by rw [List.take_length];exact List.drop_left' hl
 have e3:toNat 28≤length (bE x++r):=by rw [List.length_append,hl];exact Nat.le_add_right _ _
 rw [if_pos (by simp;omega),if_pos ⟨by decide,by decide,e3⟩,e1,f_eDecode h,Option.bind_some,if_neg (by simp),if_pos ⟨by decide,e3,Nat.le_refl _⟩,if_pos (by omega),if_pos (by omega),e2,wi (by omega),Int.toNat_natCast,Int.toNat_natCast]
theorem f_fDecRow {x y:EnT} (hx:okEn x) (hy:okEn y) {i:Nat} (hi:i<3) {r:Str} {F:FrT} :
  F_frame_Decode_b1 (bE x++(bE y++r),(i:Int),F)=some (.inl (r,((i+1:Nat):Int),(F.set i ((F.getD i (replicate 2 enZ)).set 0 x)).set i (((F.set i ((F.getD i (replicate 2 enZ)).set 0 x)).getD i (replicate 2 enZ)).set 1 y))):=by
 have s0:=f_fDecStep hx hi (j:=0) (by decide) (r:=bE y++r) (s0:=bE x++(bE y++r)) (F0:=F) (F:=F)
 have s1:=f_fDecStep hy hi (j:=1) (by decide) (r:=r) (s0:=bE x++(bE y++r)) (F0:=F) (F:=F.set i ((F.getD i (replicate 2 enZ)).set 0 x))
 have s2:∀G:FrT,F_frame_Decode_b2 (bE x++(bE y++r),(i:Int),F) (r,((1+1:Nat):Int),G)=some (.inr (.inr (r,G))):=by
  intro G
  simp only [F_frame_Decode_b2]
  rw [if_neg (by simp)]
 simp only [F_frame_Decode_b1]
 rw [if_pos (by simp;omega),show (0:Int)=((0:Nat):Int) from rfl,loopO_go s0,loopO_go s1,loopO_end (s2 _),wi (by omega)]
 rfl
theorem f_fDecode {f:FrT} (h:okFr f):F_frame_Decode (bF f)=some (f,0):=by
 have hlen:=bF_len h
 obtain ⟨a,b,c,d,e,g,rfl,ha,hb,hc,hd,he,hg⟩:=h
 unfold F_frame_Decode
 rw [if_neg (by rw [hlen];decide)]
 have s0:=f_fDecRow ha hb (i:=0) (by decide) (r:=bE c++(bE d++(bE e++bE g))) (F:=frZ)
 have s1:=f_fDecRow hc hd (i:=1) (by decide) (r:=bE e++bE g) (F:=[[a,b],[enZ,enZ],[enZ,enZ]])
 have s2:=f_fDecRow he hg (i:=2) (by decide) (r:=[]) (F:=[[a,b],[c,d],[enZ,enZ]])
 have s3:F_frame_Decode_b1 ([],((2+1:Nat):Int),[[a,b],[c,d],[e,g]])=some (.inr (.inr [[a,b],[c,d],[e,g]])):=by
  simp only [F_frame_Decode_b1]
  rw [if_neg (by simp)]
 rw [List.append_nil] at s2
 have hl:loopO F_frame_Decode_b1 (bF [[a,b],[c,d],[e,g]],0,frZ)=some (.inr [[a,b],[c,d],[e,g]]):=by
  rw [bF_six]
  exact (loopO_go s0).trans ((loopO_go s1).trans ((loopO_go s2).trans (loopO_end s3)))
 have hl':loopO F_frame_Decode_b1 (bF [[a,b],[c,d],[e,g]],0,replicate 3 (replicate 2 (0,0,0,0,0,[])))=_:=hl
 rw [hl']
 rfl
def nL (w:Nat) (l:List Int):Str:=l.flatMap fun n=>put n.toNat w
theorem nL_len (w:Nat) (l:List Int):(nL w l).length=l.length*w:=by
 induction l with
 | nil=>simp [nL]
 | cons x l ih =>
  rw [show nL w (x::l)=put x.toNat w++nL w l from rfl,List.length_append,put_length,ih,List.length_cons,Nat.succ_mul,Nat.add_comm]
theorem nL_app (w:Nat) (l r:List Int):nL w (l++r)=nL w l++nL w r:=by simp [nL]
theorem f_wput {x:Str} {w:Nat} {l:List Int} (hw:1≤w∧w≤8) (hl:l.length≤8) (hx:x.length≤100000) (hn:∀n∈l,U n) :
  F_packet_writer_put ((),byI x) (w:Int) l=some ((),byI (x++nL w l)):=by
 unfold F_packet_writer_put
 have:=loop_for (N:=l.length) (mk:=fun (k:Nat) (s:Str)=>((k:Int),byI s)) (body:=F_packet_writer_put_b1 (w:Int) l) (fun k s=>s++put (l.getD k 0).toNat w) (fun s=>byI s) (fun k s=>s=x++nL w (l.take k))
  (fun k s hk hs=>?_) (fun s _=>?_) (s:=x) (by simp [nL])
 ·obtain ⟨e,i⟩:=this
  have e:loopO (F_packet_writer_put_b1 (w:Int) l) (0,byI x)=_:=e
  show (loopO (F_packet_writer_put_b1 (w:Int) l) (0,byI x)).bind _=_
  rw [e,Option.bind_some,i,List.take_length]
 ·have hu:=hn (l.getD k 0) (by rw [getD_lt hk];exact List.getElem_mem hk)
  unfold U at hu
  have hlen:s.length≤101000:=by
   rw [hs,List.length_append,nL_len,List.length_take]
   have:min k l.length*w≤8*8:=Nat.mul_le_mul (by omega) hw.2
   omega
  refine ⟨?_,?_⟩
  ·simp only [F_packet_writer_put_b1]
   rw [if_pos (by simp;omega),if_pos (by omega)]
   simp only [Int.toNat_natCast]
   rw [wru (by omega),f_put (by omega),Option.bind_some]
   simp only [Int.toNat_natCast]
   rw [f_write (by rw [put_length];omega),Option.bind_some,wi (by omega)]
  ·rw [hs,List.take_add_one,List.getElem?_eq_getElem hk,getD_lt hk,nL_app,List.append_assoc]
   simp [nL]
 ·simp only [F_packet_writer_put_b1]
  rw [if_neg (by simp)]
def bI (d:I3):Str:=nL 4 [d.1]++(nL 1 [d.2.1]++nL 4 [d.2.2])
theorem bI_len (d:I3):(bI d).length=9:=by simp only [bI,List.length_append,nL_len,List.length_cons,List.length_nil]
theorem one_mem {x:Int} (h:U x):∀n∈[x],U n:=fun n hn=>by obtain rfl:=List.mem_singleton.1 hn;exact h
theorem f_wid {x:Str} {d:I3} (hd:okI3 d) (hx:x.length≤90000):F_packet_writer_id ((),byI x) d=some ((),byI (x++bI d)):=by
 unfold F_packet_writer_id
 have e1:=f_wput (x:=x) (w:=4) (l:=[d.1]) (by decide) (by simp) (by omega) (one_mem hd.a)
 have e2:=f_wput (x:=x++nL 4 [d.1]) (w:=1) (l:=[d.2.1]) (by decide) (by simp) (by rw [List.length_append,nL_len];simp;omega) (one_mem hd.b)
 have e3:=f_wput (x:=(x++nL 4 [d.1])++nL 1 [d.2.1]) (w:=4) (l:=[d.2.2]) (by decide) (by simp) (by rw [List.length_append,List.length_append,nL_len,nL_len];simp;omega) (one_mem hd.c)
 have e1':F_packet_writer_put ((),byI x) 4 [d.1]=_:=e1
 rw [e1',Option.bind_some]
 have e2':F_packet_writer_put ((),byI (x++nL 4 [d.1])) 1 [d.2.1]=_:=e2
 simp only []
 rw [e2',Option.bind_some]
 have e3':F_packet_writer_put ((),byI ((x++nL 4 [d.1])++nL 1 [d.2.1])) 4 [d.2.2]=_:=e3
 simp only []
 rw [e3',Option.bind_some]
 simp only [bI,List.append_assoc]
theorem f_wframes {x:Str} {l:List FrT} (hl:l.length≤3) (hx:x.length≤90000) (hf:∀f∈l,okFr f):F_packet_writer_frames ((),byI x) l=some ((),byI (x++l.flatMap bF)):=by
 unfold F_packet_writer_frames
 have:=loop_for (N:=l.length) (mk:=fun (k:Nat) (s:Str)=>((k:Int),byI s)) (body:=F_packet_writer_frames_b1 l) (fun k s=>s++bF (l.getD k frZ)) (fun s=>byI s) (fun k s=>s=x++(l.take k).flatMap bF∧s.length≤90000+168*k)
  (fun k s hk hs=>?_) (fun s _=>?_) (s:=x) ⟨by simp,by omega⟩
 ·obtain ⟨e,i,_⟩:=this
  have e:loopO (F_packet_writer_frames_b1 l) (0,byI x)=_:=e
  show (loopO (F_packet_writer_frames_b1 l) (0,byI x)).bind _=_
  rw [e,Option.bind_some,i,List.take_length]
 ·have hu:=hf (l.getD k frZ) (by rw [getD_lt hk];exact List.getElem_mem hk)
  have hb:=bF_len hu
  refine ⟨?_,?_,?_⟩
  ·simp only [F_packet_writer_frames_b1]
   rw [if_pos (by simp;omega),if_pos (by omega)]
   simp only [Int.toNat_natCast]
   have:F_frame_Encode (getD l k (replicate 3 (replicate 2 (0,0,0,0,0,[]))))=some (bF (l.getD k frZ),0):=f_fEncode hu
   rw [this,Option.bind_some]
   simp only []
   rw [f_write (by omega),Option.bind_some,wi (by omega)]
  ·rw [hs.1,List.take_add_one,List.getElem?_eq_getElem hk,getD_lt hk,List.flatMap_append,List.append_assoc]
   simp only [Option.toList_some,List.flatMap_cons,List.flatMap_nil,List.append_nil]
  ·rw [List.length_append,hb];omega
 ·simp only [F_packet_writer_frames_b1]
  rw [if_neg (by simp)]
def rdN (b:Bool):Int:=if b then 1 else 0
def body (p:PkT):Str :=
 nL 1 [p.1]++(nL 4 [p.2.1]++(bI p.2.2.1++(nL 4 p.2.2.2.1++(nL 4 p.2.2.2.2.1++(bI p.2.2.2.2.2.1++(nL 4 p.2.2.2.2.2.2.1++(nL 1 [rdN p.2.2.2.2.2.2.2.1]++(nL 4 [p.2.2.2.2.2.2.2.2.1,p.2.2.2.2.2.2.2.2.2.1] ++
  ([p.2.2.2.2.2.2.2.2.2.2.1,p.2.2.2.2.2.2.2.2.2.2.2.1].flatMap bF++(nL 1 [p.2.2.2.2.2.2.2.2.2.2.2.2.1]++(nL 4 [p.2.2.2.2.2.2.2.2.2.2.2.2.2.1]++[p.2.2.2.2.2.2.2.2.2.2.2.2.2.2].flatMap bF)))))))))))
theorem body_len {p:PkT} (h:okPk p):(body p).length=637:=by
 have h1:=bF_len h.n
 have h2:=bF_len h.o
 have h3:=bF_len h.r
 simp only [body,List.length_append,nL_len,bI_len,List.flatMap_cons,List.flatMap_nil,List.length_cons,List.length_nil,h1,h2,h3,h.mem.1,h.cnt.1,h.want.1]
def pkS (p:PkT):Str:=seal4 (body p)
theorem pkS_len {p:PkT} (h:okPk p):(pkS p).length=641:=by
 unfold pkS seal4
 rw [List.length_append,body_len h];rfl
theorem f_pCheck {p:PkT} (h:okPk p):F_packet_Check p=some 0:=by
 unfold F_packet_Check
 have g1:∀(i:Nat) (x:Int),i<4→getD (List.set (List.set (List.set (List.set (replicate 4 0) 0 p.1) 1 p.2.2.2.2.2.2.2.2.2.2.2.2.1) 2 p.2.2.1.2.1) 3 p.2.2.2.2.2.1.2.1) i 0=x→x≤7→F_packet_Check_b1 p (i:Int)=some (.inl ((i+1:Nat):Int)):=by
  intro i x hi hx h7
  simp only [F_packet_Check_b1]
  rw [if_pos (by simp;omega),if_pos (by omega),Int.toNat_natCast,hx,if_neg (by simp;omega),wi (by omega)]
 have g2:∀(i:Nat) (f:FrT),i<3→getD (List.set (List.set (List.set (replicate 3 (replicate 3 (replicate 2 (0,0,0,0,0,[])))) 0 p.2.2.2.2.2.2.2.2.2.2.1) 1 p.2.2.2.2.2.2.2.2.2.2.2.1) 2 p.2.2.2.2.2.2.2.2.2.2.2.2.2.2) i (replicate 3 (replicate 2 (0,0,0,0,0,[])))=f→okFr f→F_packet_Check_b2 p (i:Int)=some (.inl ((i+1:Nat):Int)):=by
  intro i f hi hx hf
  simp only [F_packet_Check_b2]
  rw [if_pos (by simp;omega),if_pos (by omega),Int.toNat_natCast,hx,f_fCheck0 hf,Option.bind_some,if_neg (by decide),wi (by omega)]
 have e1:loopO (F_packet_Check_b1 p) 0=some (.inr ()):=by
  refine (loopO_go (g1 0 p.1 (by decide) rfl h.a.2)).trans ((loopO_go (g1 1 _ (by decide) rfl h.rof.2)).trans ((loopO_go (g1 2 _ (by decide) rfl h.conf.c)).trans ((loopO_go (g1 3 _ (by decide) rfl h.prom.c)).trans (loopO_end ?_))))
  simp only [F_packet_Check_b1]
  rw [if_neg (by simp)]
 have e2:loopO (F_packet_Check_b2 p) 0=some (.inr ()):=by
  refine (loopO_go (g2 0 _ (by decide) rfl h.n)).trans ((loopO_go (g2 1 _ (by decide) rfl h.o)).trans ((loopO_go (g2 2 _ (by decide) rfl h.r)).trans (loopO_end ?_)))
  simp only [F_packet_Check_b2]
  rw [if_neg (by simp)]
 rw [e1,Option.bind_some]
 simp only [Sum.elim_inr]
 rw [e2];rfl
theorem U7 {x:Int} (h:0≤x∧x≤7):U x:=by unfold U;omega
theorem two_mem {x y:Int} (h:U x) (k:U y):∀n∈[x,y],U n:=fun n hn=>by
 simp only [List.mem_cons,List.not_mem_nil,or_false] at hn
 rcases hn with rfl|rfl
 ·exact h
 ·exact k
theorem f_wp4 {x:Str} {l:List Int} (hl:l.length≤8) (hx:x.length≤1000) (hn:∀n∈l,U n):F_packet_writer_put ((),byI x) 4 l=some ((),byI (x++nL 4 l)):=f_wput (w:=4) (by decide) hl (by omega) hn
theorem f_wp1 {x:Str} {l:List Int} (hl:l.length≤8) (hx:x.length≤1000) (hn:∀n∈l,U n):F_packet_writer_put ((),byI x) 1 l=some ((),byI (x++nL 1 l)):=f_wput (w:=1) (by decide) hl (by omega) hn
theorem f_truth (b:Bool):F_packet_truth b=some (rdN b):=by cases b<;>rfl
theorem rdN_U (b:Bool):U (rdN b):=by cases b<;>decide
theorem f_Encode {p:PkT} (h:okPk p):F_packet_Encode p=some (pkS p,0):=by
 unfold F_packet_Encode
 rw [f_pCheck h,Option.bind_some,if_neg (by decide)]
 have m8:=h.mem.1
 have c8:=h.cnt.1
 have w8:=h.want.1
 have n1:=bF_len h.n
 have n2:=bF_len h.o
 have n3:=bF_len h.r
 show (F_packet_writer_put ((),byI []) 1 [p.1]).bind _=_
 rw [f_wp1 (x:=[]) (by simp) (by simp) (one_mem (U7 h.a)),Option.bind_some]
 dsimp only
 rw [f_wp4 (l:=[p.2.1]) (by simp) (by simp [nL_len]) (one_mem h.inc),Option.bind_some]
 dsimp only
 rw [f_wid h.conf.ok (by simp [nL_len]),Option.bind_some]
 dsimp only
 rw [f_wp4 (l:=p.2.2.2.1) (by omega) (by simp [nL_len,bI_len]) h.mem.2,Option.bind_some]
 dsimp only
 rw [f_wp4 (l:=p.2.2.2.2.1) (by omega) (by simp [nL_len,bI_len,m8]) h.cnt.2,Option.bind_some]
 dsimp only
 rw [f_wid h.prom.ok (by simp [nL_len,bI_len,m8,c8]),Option.bind_some]
 dsimp only
 rw [f_wp4 (l:=p.2.2.2.2.2.2.1) (by omega) (by simp [nL_len,bI_len,m8,c8]) h.want.2,Option.bind_some,f_truth,Option.bind_some]
 dsimp only
 rw [f_wp1 (l:=[rdN p.2.2.2.2.2.2.2.1]) (by simp) (by simp [nL_len,bI_len,m8,c8,w8]) (one_mem (rdN_U _)),Option.bind_some]
 dsimp only
 rw [f_wp4 (l:=[p.2.2.2.2.2.2.2.2.1,p.2.2.2.2.2.2.2.2.2.1]) (by simp) (by simp [nL_len,bI_len,m8,c8,w8]) (two_mem h.epoch h.round),Option.bind_some]
 dsimp only
 rw [f_wframes (l:=[p.2.2.2.2.2.2.2.2.2.2.1,p.2.2.2.2.2.2.2.2.2.2.2.1]) (by simp) (by simp [nL_len,bI_len,m8,c8,w8]) (fun f hf=>by
  simp only [List.mem_cons,List.not_mem_nil,or_false] at hf
  rcases hf with rfl|rfl
  ·exact h.n
  ·exact h.o),Option.bind_some]
 dsimp only
 rw [f_wp1 (l:=[p.2.2.2.2.2.2.2.2.2.2.2.2.1]) (by simp) (by simp [nL_len,bI_len,m8,c8,w8,n1,n2]) (one_mem (U7 h.rof)),Option.bind_some]
 dsimp only
 rw [f_wp4 (l:=[p.2.2.2.2.2.2.2.2.2.2.2.2.2.1]) (by simp) (by simp [nL_len,bI_len,m8,c8,w8,n1,n2]) (one_mem h.rr),Option.bind_some]
 dsimp only
 rw [f_wframes (l:=[p.2.2.2.2.2.2.2.2.2.2.2.2.2.2]) (by simp) (by simp [nL_len,bI_len,m8,c8,w8,n1,n2]) (fun f hf=>by
  obtain rfl:=List.mem_singleton.1 hf
  exact h.r),Option.bind_some]
 dsimp only
 rw [f_str,Option.bind_some]
 have e:∀x:Str,x=body p→(F_crc_Seal x).bind (fun t17=>some (t17,(0:Int)))=some (pkS p,0):=by
  rintro x rfl
  rw [f_Seal (by rw [body_len h];decide)];rfl
 apply e
 simp only [body,List.append_assoc,List.nil_append]
theorem f_rtake {n:Int} {w:Nat} {r:Str} {e:Int} (hw:1≤w∧w≤8) (hn:0≤n∧n≤4294967295) (hn2:n.toNat<256^w):F_packet_reader_take (nL w [n]++r,e) (w:Int)=some (n,r,e):=by
 unfold F_packet_reader_take
 have e1:nL w [n]++r=put n.toNat w++r:=by simp [nL]
 rw [e1]
 dsimp only
 rw [f_take hw hn2,Option.bind_some]
 dsimp only
 rw [toI hn.1,wr32 hn]
theorem f_rt4 {n:Int} {r:Str} {e:Int} (hn:U n):F_packet_reader_take (nL 4 [n]++r,e) 4=some (n,r,e):=f_rtake (w:=4) (by decide) hn (by unfold U at hn;show n.toNat<4294967296;omega)
theorem f_rt1 {n:Int} {r:Str} {e:Int} (hn:0≤n∧n≤255):F_packet_reader_take (nL 1 [n]++r,e) 1=some (n,r,e):=f_rtake (w:=1) (by decide) (by omega) (by show n.toNat<256;omega)
theorem f_rid {d:I3} (hd:okId d) {r:Str} {e:Int}:F_packet_reader_id (bI d++r,e)=some (d,r,e):=by
 unfold F_packet_reader_id bI
 have hb:=hd.ok.b
 have hc:=hd.c
 simp only [List.append_assoc]
 rw [f_rt4 hd.ok.a,Option.bind_some]
 dsimp only
 rw [f_rt1 (by omega),Option.bind_some]
 dsimp only
 rw [f_rt4 hd.ok.c,Option.bind_some]
theorem f_reight {m:List Int} (hm:ok8 m) {r:Str} {e:Int}:F_packet_reader_eight (nL 4 m++r,e)=some (m,r,e):=by
 unfold F_packet_reader_eight
 have:=loop_for (N:=8) (mk:=fun (k:Nat) (s:List Int)=>((k:Int),(nL 4 (m.drop k)++r,e),s)) (body:=F_packet_reader_eight_b1) (fun k s=>s.set k (m.getD k 0)) (fun s=>(s,r,e)) (fun k s=>s.length=8∧∀j,j<k→s.getD j 0=m.getD j 0)
  (fun k s hk hs=>?_) (fun s _=>?_) (s:=replicate 8 0) ⟨by simp,fun j hj=>absurd hj (by omega)⟩
 ·obtain ⟨e1,i1,i2⟩:=this
  have e1:loopO F_packet_reader_eight_b1 (0,(nL 4 m++r,e),replicate 8 0)=_:=e1
  rw [e1,Option.bind_some]
  rw [ext8 i1 hm.1 i2]
 ·have hk2:k<m.length:=by rw [hm.1];exact hk
  refine ⟨?_,by rw [List.length_set];exact hs.1,fun j hj=>?_⟩
  ·simp only [F_packet_reader_eight_b1]
   have e2:nL 4 (m.drop k)++r=nL 4 [m.getD k 0]++(nL 4 (m.drop (k+1))++r):=by
    rw [List.drop_eq_getElem_cons hk2,getD_lt hk2,show nL 4 (m[k]::m.drop (k+1))=put m[k].toNat 4++nL 4 (m.drop (k+1)) from rfl,List.append_assoc,show nL 4 [m[k]]=put m[k].toNat 4 from by simp [nL]]
   rw [if_pos (by simp;omega),e2,f_rt4 (ok8_get hm k),Option.bind_some]
   dsimp only
   rw [if_pos (by omega),wi (by omega),Int.toNat_natCast]
  ·rw [getD_set (by rw [hs.1];exact hk)]
   by_cases q:j=k
   ·rw [if_pos q,q]
   ·rw [if_neg q,hs.2 j (by omega)]
 ·simp only [F_packet_reader_eight_b1]
  rw [if_neg (by simp),List.drop_of_length_le (by rw [hm.1];exact Nat.le_refl _)]
  simp [nL]
theorem f_rframe {f:FrT} (hf:okFr f) {r:Str} {e:Int}:F_packet_reader_frame (bF f++r,e)=some (f,r,e):=by
 unfold F_packet_reader_frame
 have hl:=bF_len hf
 have e1:drop 0 (take (toNat 168) (bF f++r))=bF f:=by rw [List.drop_zero];exact List.take_left' hl
 have e2:drop (toNat 168) (take (length (bF f++r)) (bF f++r))=r:=by rw [List.take_length];exact List.drop_left' hl
 have e3:toNat 168≤length (bF f++r):=by rw [List.length_append,hl];exact Nat.le_add_right _ _
 dsimp only
 rw [if_pos ⟨by decide,by decide,e3⟩,e1,f_fDecode hf,Option.bind_some,if_pos ⟨by decide,e3,Nat.le_refl _⟩,if_neg (by simp),e2]
theorem f_Decode {p:PkT} (h:okPk p):F_packet_Decode (pkS p)=some (p,0):=by
 unfold F_packet_Decode
 have hl:=pkS_len h
 rw [if_neg (by rw [hl];decide),f_crcOk (by rw [hl];decide) (by rw [hl];decide),Option.bind_some,show crcOk (pkS p)=true from crcOk_seal _,if_neg (by decide)]
 have a7:=h.a
 have r7:=h.rof
 have e0:pkS p=nL 1 [p.1]++(nL 4 [p.2.1]++(bI p.2.2.1++(nL 4 p.2.2.2.1++(nL 4 p.2.2.2.2.1++(bI p.2.2.2.2.2.1++(nL 4 p.2.2.2.2.2.2.1++(nL 1 [rdN p.2.2.2.2.2.2.2.1]++(nL 4 [p.2.2.2.2.2.2.2.2.1]++(nL 4 [p.2.2.2.2.2.2.2.2.2.1] ++
  (bF p.2.2.2.2.2.2.2.2.2.2.1++(bF p.2.2.2.2.2.2.2.2.2.2.2.1++(nL 1 [p.2.2.2.2.2.2.2.2.2.2.2.2.1]++(nL 4 [p.2.2.2.2.2.2.2.2.2.2.2.2.2.1]++(bF p.2.2.2.2.2.2.2.2.2.2.2.2.2.2++four (crc (body p)))))))))))))))):=by
  unfold pkS seal4
  have e9:nL 4 [p.2.2.2.2.2.2.2.2.1,p.2.2.2.2.2.2.2.2.2.1]=nL 4 [p.2.2.2.2.2.2.2.2.1]++nL 4 [p.2.2.2.2.2.2.2.2.2.1]:=nL_app 4 [p.2.2.2.2.2.2.2.2.1] [p.2.2.2.2.2.2.2.2.2.1]
  conv=>lhs;lhs;unfold body
  rw [e9]
  simp only [List.append_assoc,List.flatMap_cons,List.flatMap_nil,List.append_nil]
 rw [e0,f_rt1 (by omega),Option.bind_some]
 dsimp only
 rw [f_rt4 h.inc,Option.bind_some]
 dsimp only
 rw [f_rid h.conf,Option.bind_some]
 dsimp only
 rw [f_reight h.mem,Option.bind_some]
 dsimp only
 rw [f_reight h.cnt,Option.bind_some]
 dsimp only
 rw [f_rid h.prom,Option.bind_some]
 dsimp only
 rw [f_reight h.want,Option.bind_some]
 dsimp only
 rw [f_rt1 (by cases p.2.2.2.2.2.2.2.1<;>decide),Option.bind_some]
 dsimp only
 rw [f_rt4 h.epoch,Option.bind_some]
 dsimp only
 rw [f_rt4 h.round,Option.bind_some]
 dsimp only
 rw [f_rframe h.n,Option.bind_some]
 dsimp only
 rw [f_rframe h.o,Option.bind_some]
 dsimp only
 rw [f_rt1 (by omega),Option.bind_some]
 dsimp only
 rw [f_rt4 h.rr,Option.bind_some]
 dsimp only
 rw [f_rframe h.r,Option.bind_some]
 dsimp only
 have er:(rdN p.2.2.2.2.2.2.2.1==1)=p.2.2.2.2.2.2.2.1:=by cases p.2.2.2.2.2.2.2.1<;>rfl
 rw [if_neg (by decide),if_neg (by cases p.2.2.2.2.2.2.2.1<;>simp [rdN]),er]
 have eC:F_packet_Check (p.1,p.2.1,p.2.2.1,p.2.2.2.1,p.2.2.2.2.1,p.2.2.2.2.2.1,p.2.2.2.2.2.2.1,p.2.2.2.2.2.2.2.1,p.2.2.2.2.2.2.2.2.1,p.2.2.2.2.2.2.2.2.2.1,p.2.2.2.2.2.2.2.2.2.2.1,p.2.2.2.2.2.2.2.2.2.2.2.1,p.2.2.2.2.2.2.2.2.2.2.2.2.1,p.2.2.2.2.2.2.2.2.2.2.2.2.2.1,p.2.2.2.2.2.2.2.2.2.2.2.2.2.2)=some 0:=f_pCheck h
 rw [eC]
 rfl
theorem f_DecodeBad {s:Str} (hl:s.length=641) (hc:crcOk s=false):∃p:PkT,F_packet_Decode s=some (p,51):=by
 unfold F_packet_Decode
 rw [if_neg (by rw [hl];decide),f_crcOk (by rw [hl];decide) (by rw [hl];decide),Option.bind_some,hc,if_pos (by decide)]
 exact ⟨_,rfl⟩
abbrev LeT:=Int×Int×Str×Bool
abbrev leZ:LeT:=S93.dflt
theorem f_cloneL {l:List LeT} (h:l.length≤1000000):F_slices_Clone_api_Letter_api_Letter l=some l:=by
 unfold F_slices_Clone_api_Letter_api_Letter
 rw [if_pos (apOk_s (by omega) (by omega)),List.nil_append]
theorem f_cloneB {l:List Bool} (h:l.length≤1000000):F_slices_Clone_bool_bool l=some l:=by
 unfold F_slices_Clone_bool_bool
 rw [if_pos (apOk_s (by omega) (by omega)),List.nil_append]
theorem f_concat {a b:List LeT} (ha:a.length≤100000) (hb:b.length≤100000):F_slices_Concat_api_Letter_api_Letter [a,b]=some (a++b):=by
 unfold F_slices_Concat_api_Letter_api_Letter
 have g0:F_slices_Concat_api_Letter_api_Letter_b1 [a,b] (0,0)=some (.inl ((a.length:Int),1)):=by
  simp only [F_slices_Concat_api_Letter_api_Letter_b1]
  rw [if_pos (by simp),if_pos (by simp)]
  have e:wrap .i64 (0+((length (getD [a,b] (toNat 0) []):Nat):Int))=(a.length:Int):=by
   show wrap .i64 (0+((a.length:Nat):Int))=_
   rw [wr (by omega)];omega
  rw [e,if_neg (by simp),wr (by decide)];rfl
 have g1:F_slices_Concat_api_Letter_api_Letter_b1 [a,b] ((a.length:Int),1)=some (.inl (((a.length+b.length:Nat):Int),2)):=by
  simp only [F_slices_Concat_api_Letter_api_Letter_b1]
  rw [if_pos (by simp),if_pos (by simp)]
  have e:wrap .i64 ((a.length:Int)+((length (getD [a,b] (toNat 1) []):Nat):Int))=((a.length+b.length:Nat):Int):=by
   show wrap .i64 ((a.length:Int)+((b.length:Nat):Int))=_
   rw [wr (by omega)];omega
  rw [e,if_neg (by simp;omega),wr (by decide)];rfl
 have g2:F_slices_Concat_api_Letter_api_Letter_b1 [a,b] (((a.length+b.length:Nat):Int),2)=some (.inr ((a.length+b.length:Nat):Int)):=by
  simp only [F_slices_Concat_api_Letter_api_Letter_b1]
  rw [if_neg (by simp)]
 rw [loopO_go g0,loopO_go g1,loopO_end g2,Option.bind_some]
 have eg:F_slices_Grow_api_Letter_api_Letter () ((a.length+b.length:Nat):Int)=some []:=by
  unfold F_slices_Grow_api_Letter_api_Letter
  rw [if_pos (by simp [maxLen];omega)]
 rw [eg,Option.bind_some]
 have h0:F_slices_Concat_api_Letter_api_Letter_b2 [a,b] (0,[])=some (.inl (1,a)):=by
  simp only [F_slices_Concat_api_Letter_api_Letter_b2]
  rw [if_pos (by simp),if_pos (by simp),if_pos (apOk_s (by show ([].length+a.length)*40≤_;simp;omega) (by show [].length+a.length≤_;simp;omega)),wr (by decide)];rfl
 have h1:F_slices_Concat_api_Letter_api_Letter_b2 [a,b] (1,a)=some (.inl (2,a++b)):=by
  simp only [F_slices_Concat_api_Letter_api_Letter_b2]
  rw [if_pos (by simp),if_pos (by simp),if_pos (apOk_s (by show (a.length+b.length)*40≤_;omega) (by show a.length+b.length≤_;omega)),wr (by decide)];rfl
 have h2:F_slices_Concat_api_Letter_api_Letter_b2 [a,b] (2,a++b)=some (.inr (a++b)):=by
  simp only [F_slices_Concat_api_Letter_api_Letter_b2]
  rw [if_neg (by simp)]
 rw [loopO_go h0,loopO_go h1,loopO_end h2];rfl
theorem f_Put {l:List LeT} {x:LeT} (h:l.length≤4096):∃l':List LeT,F_lossy_Put l [x]=some l'∧l'.length≤4096∧∀y∈l',y∈l∨y=x:=by
 unfold F_lossy_Put
 rw [wr (by omega),mne,mxe]
 have e:min (([x].length:Nat):Int) (max 0 (4096-(l.length:Int)))=((if l.length<4096 then 1 else 0:Nat):Int):=by
  simp only [List.length_cons,List.length_nil]
  split<;>omega
 rw [e,Int.toNat_natCast]
 have e2:(if l.length<4096 then 1 else 0:Nat)≤[x].length:=by simp only [List.length_cons,List.length_nil];split<;>omega
 rw [if_pos ⟨by omega,by omega,e2⟩,List.drop_zero,f_concat (by omega) (by rw [List.length_take];simp;omega)]
 refine ⟨_,rfl,?_,fun y hy=>?_⟩
 ·rw [List.length_append,List.length_take]
  simp only [List.length_cons,List.length_nil]
  split<;>omega
 ·rw [List.mem_append] at hy
  rcases hy with hy|hy
  ·exact .inl hy
  ·exact .inr (List.mem_singleton.1 (List.mem_of_mem_take hy))
theorem f_places {l:List LeT} (h:l.length≤100000) (i k:Int):∃r:List Int,F_lossy_places l i k=some r∧r.length≤l.length∧∀x∈r,0≤x∧x<(l.length:Int):=by
 unfold F_lossy_places
 have:=loop_for (N:=l.length) (mk:=fun (j:Nat) (s:List Int)=>((j:Int),s)) (body:=F_lossy_places_b1 l i k) (fun j s=>if (l.getD j leZ).1=i∧(l.getD j leZ).2.1=k then s++[(j:Int)] else s) (fun s=>s) (fun j s=>s.length≤j∧∀x∈s,0≤x∧x<(j:Int))
  (fun j s hj hs=>?_) (fun s _=>?_) (s:=[]) ⟨Nat.le_refl _,fun x hx=>absurd hx (List.not_mem_nil)⟩
 ·obtain ⟨e,i1,i2⟩:=this
  have e:loopO (F_lossy_places_b1 l i k) (0,[])=_:=e
  rw [e]
  exact ⟨_,rfl,i1,i2⟩
 ·refine ⟨?_,?_,?_⟩
  ·simp only [F_lossy_places_b1]
   rw [if_pos (by simp;omega),if_pos (by omega)]
   simp only [Int.toNat_natCast,wi (show j<1000000000000 by omega)]
   by_cases q1:(l.getD j leZ).1=i
   ·have q1':((getD l j S93.dflt).1==i)=true:=by simpa using q1
    rw [if_pos q1']
    simp only [Option.bind_some]
    by_cases q2:(l.getD j leZ).2.1=k
    ·have q2':((getD l j S93.dflt).2.1==k)=true:=by simpa using q2
     rw [if_pos q2',if_pos (apOk_s (by omega) (by omega)),if_pos ⟨q1,q2⟩]
    ·have q2':¬((getD l j S93.dflt).2.1==k)=true:=by simpa using q2
     rw [if_neg q2',if_neg (fun q=>q2 q.2)]
   ·have q1':¬((getD l j S93.dflt).1==i)=true:=by simpa using q1
    rw [if_neg q1']
    simp only [Option.bind_some]
    rw [if_neg (by decide),if_neg (fun q=>q1 q.1)]
  ·split
   ·simp;omega
   ·omega
  ·intro x hx
   split at hx
   ·rw [List.mem_append] at hx
    rcases hx with hx|hx
    ·have:=hs.2 x hx;omega
    ·obtain rfl:=List.mem_singleton.1 hx;omega
   ·have:=hs.2 x hx;omega
 ·simp only [F_lossy_places_b1]
  rw [if_neg (by simp)]
theorem f_Find {l:List LeT} (h:l.length≤100000) (i k x:Int):∃z:Nat,∃b:Bool,F_lossy_Find l i k x=some ((z:Int),b)∧(b=true→z<l.length):=by
 unfold F_lossy_Find
 obtain ⟨r,er,hr,hm⟩:=f_places h i k
 rw [er,Option.bind_some]
 by_cases h0:r.length=0
 ·rw [if_pos (by simp [h0])]
  exact ⟨0,false,rfl,by simp⟩
 ·rw [if_neg (by simp;intro q;simp [q] at h0),if_pos (by omega),if_pos (by omega)]
  have hn:(0:Int)<(r.length:Int):=by omega
  have h1:=Int.tmod_lt_of_pos x hn
  have h2:-(r.length:Int)<Int.tmod x (r.length:Int):=by
   by_cases hx:0≤x
   ·rw [Int.tmod_eq_emod_of_nonneg hx]
    have:=Int.emod_nonneg x (b:=(r.length:Int)) (by omega)
    omega
   ·have e5:x=-(-x):=by omega
    rw [e5,Int.neg_tmod]
    have:=Int.tmod_lt_of_pos (-x) hn
    omega
  rw [wr (by omega),Int.tmod_eq_emod_of_nonneg (by omega)]
  have h3:=Int.emod_nonneg (Int.tmod x (r.length:Int)+(r.length:Int)) (b:=(r.length:Int)) (by omega)
  have h4:=Int.emod_lt_of_pos (Int.tmod x (r.length:Int)+(r.length:Int)) hn
  rw [if_pos ⟨h3,h4⟩]
  generalize (Int.tmod x (r.length:Int)+(r.length:Int))%(r.length:Int)=q at h3 h4
  have hq:q.toNat<r.length:=by omega
  have:=hm (r.getD q.toNat 0) (by rw [getD_lt hq];exact List.getElem_mem hq)
  refine ⟨(r.getD q.toNat 0).toNat,true,by rw [toI this.1],fun _=>by omega⟩
theorem f_Delete {l:List LeT} {z:Nat} (hz:z<l.length) (h:l.length≤100000):F_slices_Delete_api_Letter_api_Letter l (z:Int) ((z+1:Nat):Int)=some (l.take z++l.drop (z+1)):=by
 unfold F_slices_Delete_api_Letter_api_Letter
 simp only [Int.toNat_natCast,Nat.sub_zero,Nat.zero_add]
 have e1:take (l.length-(z+1)) (drop (z+1) l)=drop (z+1) l:=List.take_of_length_le (by rw [List.length_drop];exact Nat.le_refl _)
 simp only [e1,List.length_drop]
 have eA:(take z l++(drop (z+1) l++drop (z+(l.length-(z+1))) l)).length=l.length:=by
  simp only [List.length_append,List.length_take,List.length_drop];omega
 rw [if_pos ⟨by omega,by omega,by omega,by omega,by omega,Nat.le_refl _⟩,if_neg (by simp;omega),if_pos ⟨by omega,by omega,by omega⟩,if_pos ⟨by omega,by omega,Nat.le_refl _⟩,if_pos ⟨by omega,by omega⟩,
  if_pos ⟨by omega,by omega,by omega,by rw [eA];exact Nat.le_refl _⟩,if_pos (by rw [eA];omega)]
 have eT:take (z+(l.length-(z+1))) (take z l++(drop (z+1) l++drop (z+(l.length-(z+1))) l))=take z l++drop (z+1) l:=by
  rw [← List.append_assoc]
  exact List.take_left' (by simp only [List.length_append,List.length_take,List.length_drop];omega)
 rw [eT]
 have eL:(take z l++drop (z+1) l).length=z+(l.length-(z+1)):=by simp only [List.length_append,List.length_take,List.length_drop];omega
 rw [if_pos (by rw [List.length_append,eL];omega),List.take_left' eL]
theorem f_LTake {l:List LeT} (h:l.length≤100000) (i k x:Int):∃l':List LeT,∃y:LeT,∃b:Bool,F_lossy_Take l i k x=some (l',y,b)∧(b=true→y∈l∧l'.length≤l.length∧∀z∈l',z∈l):=by
 unfold F_lossy_Take
 obtain ⟨z,b,e,hz⟩:=f_Find h i k x
 rw [f_cloneL (by omega),Option.bind_some,e,Option.bind_some]
 cases b with
 | false=>exact ⟨l,(0,0,[],false),false,rfl,by simp⟩
 | true =>
  have hz:=hz rfl
  rw [if_neg (by simp),wi (by omega),f_Delete hz h,Option.bind_some,if_pos (by omega)]
  refine ⟨_,_,true,rfl,fun _=>⟨?_,?_,fun y hy=>?_⟩⟩
  ·have:getD l (toNat (z:Int)) S93.dflt=l[z]:=by rw [Int.toNat_natCast];exact getD_lt (d:=leZ) hz
   rw [this];exact List.getElem_mem hz
  ·simp only [List.length_append,List.length_take,List.length_drop];omega
  ·rw [List.mem_append] at hy
   rcases hy with hy|hy
   ·exact List.mem_of_mem_take hy
   ·exact List.mem_of_mem_drop hy
def Burst (s t:Str):Prop:=∃a x y c:Str,s=a++(x++c)∧t=a++(y++c)∧x.length=y.length∧x.length≤4
theorem burst_of {s t:Str} {n:Nat} (hl:s.length=t.length) (h:∀j,j<n∨n+4≤j→s[j]?=t[j]?):Burst s t:=by
 refine ⟨s.take n,(s.drop n).take 4,(t.drop n).take 4,s.drop (n+4),?_,?_,?_,?_⟩
 ·rw [← List.drop_drop,List.take_append_drop,List.take_append_drop]
 ·have e1:s.take n=t.take n:=by
   apply List.ext_getElem?
   intro j
   by_cases q:j<n
   ·rw [List.getElem?_take_of_lt q,List.getElem?_take_of_lt q,h j (.inl q)]
   ·rw [List.getElem?_eq_none (by rw [List.length_take];omega),List.getElem?_eq_none (by rw [List.length_take];omega)]
  have e2:s.drop (n+4)=t.drop (n+4):=by
   apply List.ext_getElem?
   intro j
   rw [List.getElem?_drop,List.getElem?_drop,h _ (.inr (by omega))]
  rw [e1,e2,← List.drop_drop,List.take_append_drop,List.take_append_drop]
 ·simp only [List.length_take,List.length_drop];omega
 ·rw [List.length_take];omega
theorem iBy_byI (x:Str):iBy (byI x)=x:=byS_byI x
theorem f_Turn {l:List LeT} (h:l.length≤100000) (ht:∀x∈l,x.2.2.1.length≤100000) (i k x:Int) {z m:Int} (hz2:z≤9223372036854775807):∃l':List LeT,F_lossy_Turn l i k x z m=some l'∧l'.length=l.length ∧
  ∀y∈l',y∈l∨∃v∈l,v.2.2.2=false∧y.1=v.1∧y.2.1=v.2.1∧y.2.2.1.length=v.2.2.1.length∧Burst v.2.2.1 y.2.2.1∧(y.2.2.2=true↔y.2.2.1≠v.2.2.1):=by
 unfold F_lossy_Turn
 obtain ⟨q,b,e,hq⟩:=f_Find h i k x
 rw [f_cloneL (by omega),Option.bind_some,e,Option.bind_some]
 cases b with
 | false=>exact ⟨l,rfl,rfl,fun y hy=>.inl hy⟩
 | true =>
  have hq:=hq rfl
  have eg:getD l (toNat (q:Int)) S93.dflt=l[q]:=by rw [Int.toNat_natCast];exact getD_lt (d:=leZ) hq
  rw [if_neg (by simp)]
  dsimp only
  rw [eg]
  have hrg:0≤(q:Int)∧(q:Int)<(l.length:Int):=by omega
  have hlen:=ht l[q] (List.getElem_mem hq)
  by_cases k1:z<0
  ·rw [if_pos (by simpa using k1)]
   exact ⟨l,rfl,rfl,fun y hy=>.inl hy⟩
  ·rw [if_neg (by simpa using k1),if_pos hrg]
   by_cases k2:z≥(l[q].2.2.1.length:Int)
   ·rw [if_pos (by simpa using k2)]
    exact ⟨l,rfl,rfl,fun y hy=>.inl hy⟩
   ·rw [if_neg (by simpa using k2),if_pos hrg]
    simp only [Option.bind_some]
    by_cases k3:l[q].2.2.2=true
    ·rw [if_pos k3]
     exact ⟨l,rfl,rfl,fun y hy=>.inl hy⟩
    ·rw [if_neg k3,if_pos hrg]
     obtain ⟨n,rfl⟩:∃n:Nat,z=(n:Int):=⟨z.toNat,by omega⟩
     have hbl:(byI l[q].2.2.1).length=l[q].2.2.1.length:=by simp [byI]
     have hN:mn 4 (wrap .i64 (((length (byI l[q].2.2.1):Nat):Int)-(n:Int)))=((min 4 (l[q].2.2.1.length-n):Nat):Int):=by
      rw [hbl,wr (by omega),mne];omega
     have hl:=loop_for (N:=min 4 (l[q].2.2.1.length-n)) (mk:=fun (j:Nat) (s:List Int)=>((j:Int),s)) (body:=F_lossy_Turn_b2 l ((q:Int),true) (n:Int) m)
      (fun j s=>s.set (n+j) (bits .xor .u8 (s.getD (n+j) 0) (wrap .u8 (Int.fdiv m (2^min (toNat (wrap .i64 ((8:Int)*(j:Int)))) 32))))) (fun s=>s)
      (fun j s=>s.length=l[q].2.2.1.length∧∀v,v<n∨n+4≤v→s[v]?=(byI l[q].2.2.1)[v]?) (fun j s hj hs=>?_) (fun s _=>?_) (s:=byI l[q].2.2.1) ⟨hbl,fun v _=>rfl⟩
     ·obtain ⟨e2,i1,i2⟩:=hl
      have e2:loopO (F_lossy_Turn_b2 l ((q:Int),true) (n:Int) m) (0,byI l[q].2.2.1)=_:=e2
      rw [e2,Option.bind_some]
      generalize forN _ _ _=r at i1 i2
      have hset:(length (List.set l (toNat (q:Int)) (l[q].1,l[q].2.1,iBy r,l[q].2.2.2)):Int)=(l.length:Int):=by rw [List.length_set]
      have eg2:getD (List.set l (toNat (q:Int)) (l[q].1,l[q].2.1,iBy r,l[q].2.2.2)) (toNat (q:Int)) S93.dflt=(l[q].1,l[q].2.1,iBy r,l[q].2.2.2):=by
       rw [Int.toNat_natCast,List.getD_eq_getElem?_getD,List.getElem?_set,if_pos rfl,if_pos hq];rfl
      rw [if_pos hrg,if_pos hrg,if_pos (by rw [hset];exact hrg),eg2]
      have hrl:(iBy r).length=l[q].2.2.1.length:=by simp [iBy,i1]
      rw [List.set_set]
      refine ⟨_,rfl,by rw [List.length_set],fun y hy=>?_⟩
      rcases List.mem_or_eq_of_mem_set hy with hy|hy
      ·exact .inl hy
      ·subst hy
       refine .inr ⟨l[q],List.getElem_mem hq,by simpa using k3,rfl,rfl,hrl,burst_of (n:=n) hrl.symm fun j hj=>?_,?_⟩
       ·show l[q].2.2.1[j]?=(iBy r)[j]?
        have:=i2 j hj
        unfold iBy
        rw [List.getElem?_map,this]
        have e5:=congrArg (fun s:Str=>s[j]?) (iBy_byI l[q].2.2.1)
        simp only [iBy,List.getElem?_map] at e5
        rw [e5]
       ·show (!((iBy r)==l[q].2.2.1))=true↔_
        simp
     ·have hj4:j<4:=by omega
      have hjl:n+j<l[q].2.2.1.length:=by omega
      refine ⟨?_,by rw [List.length_set];exact hs.1,fun v hv=>?_⟩
      ·simp only [F_lossy_Turn_b2]
       rw [eg,hN]
       have e3:wrap .i64 ((n:Int)+(j:Int))=((n+j:Nat):Int):=by rw [wr (by omega)];omega
       have h8:(0:Int)≤wrap .i64 (8*(j:Int)):=by rw [wr (by omega)];omega
       rw [if_pos (by simp;omega),e3,if_pos (by rw [hs.1];omega),if_pos h8,if_pos (by rw [hs.1];omega),wi (by omega),Int.toNat_natCast]
      ·rw [List.getElem?_set,if_neg (by omega)]
       exact hs.2 v hv
     ·simp only [F_lossy_Turn_b2]
      rw [eg,hN,if_neg (by simp)]
variable {pre:List (MT FrT)}
abbrev ToT:=Int×Int×I3×HaT
abbrev ClT:=Int×List CoT×List Bool×List LeT
abbrev RuT:=ClT×List ToT
abbrev DeT:=Int×Int×Int×Int×Int×Int×FrT
abbrev coZ:CoT:=S78.dflt
abbrev toZ:ToT:=S50.dflt
abbrev deZ:DeT:=S66.dflt
theorem loop_rel {S σ τ:Type} {N:Nat} {mk:Nat→σ→S} {body:S→Option (S⊕τ)} (I:Nat→σ→Prop) (Q:τ→Prop) (h1:∀i s,i<N→I i s→∃s',body (mk i s)=some (.inl (mk (i+1) s'))∧I (i+1) s')
  (h2:∀s,I N s→∃r,body (mk N s)=some (.inr r)∧Q r) {s:σ} (h0:I 0 s):∃r,loopO body (mk 0 s)=some r∧Q r:=by
 have key:∀k,k≤N→∃s',loopO body (mk 0 s)=loopO body (mk k s')∧I k s':=by
  intro k
  induction k with
  | zero=>intro _;exact ⟨s,rfl,h0⟩
  | succ k ih =>
   intro hk
   obtain ⟨s',e,i⟩:=ih (by omega)
   obtain ⟨s2,e2,i2⟩:=h1 k s' (by omega) i
   exact ⟨s2,e.trans (loopO_go e2),i2⟩
 obtain ⟨s',e,i⟩:=key N (Nat.le_refl _)
 obtain ⟨r,e2,q⟩:=h2 s' i
 exact ⟨r,e.trans (loopO_end e2),q⟩
def tellC (who own:Int):I3→List HaT→List ToT
 | _,[]=>[]
 | inn,h::l=>(who,own,inn,h)::tellC who own (if h.1=true then h.2.2.1 else inn) l
def toM (t:ToT):MT FrT:=mto t.1.toNat t.2.1 (rk t.2.2.1) t.2.2.2
theorem tellC_map (who:Nat) (own:Int):∀(l:List HaT) (inn:I3),(tellC (who:Int) own inn l).map toM=tellL who own (rk inn) l
 | [],inn=>rfl
 | h::l,inn=>by
  simp only [tellC,tellL,List.map_cons,tellC_map who own l]
  congr 2
  split<;>rfl
structure okTo (t:ToT):Prop where
 a:0≤t.1∧t.1≤7
 b:U t.2.1
 c:okId t.2.2.1
 d:okHa t.2.2.2
theorem tellC_ok {who own:Int} (hw:0≤who∧who≤7) (ho:U own):∀(l:List HaT) (inn:I3),okId inn→(∀h∈l,okHa h)→(∀t∈tellC who own inn l,okTo t)∧(tellC who own inn l).length=l.length
 | [],inn,_,_=>⟨fun t h=>absurd h (List.not_mem_nil),rfl⟩
 | h::l,inn,hi,hl=>by
  have hh:=hl h (List.mem_cons_self ..)
  obtain ⟨a,b⟩:=tellC_ok hw ho l (if h.1=true then h.2.2.1 else inn) (by cases h.1 with|true=>exact hh.c|false=>exact hi) (fun x hx=>hl x (List.mem_cons_of_mem _ hx))
  refine ⟨fun t ht=>?_,by simp only [tellC,List.length_cons,b]⟩
  rcases List.mem_cons.1 ht with rfl|ht
  ·exact ⟨hw,ho,hi,hh⟩
  ·exact a t ht
theorem f_tell {r:RuT} {who:Nat} {inn:I3} {l:List HaT} (hw:who<r.1.2.1.length) (hl:r.2.length+l.length≤1000000) :
  F_cluster_run_tell r (who:Int) inn l=some (r.1,r.2++tellC (who:Int) (r.1.2.1.getD who coZ).own inn l):=by
 unfold F_cluster_run_tell
 have key:∀(xs:List HaT) (i:Nat) (inn:I3) (t:List ToT),xs=l.drop i→i≤l.length→t.length+xs.length≤1000000→loopO (F_cluster_run_tell_b1 r (who:Int) l) ((i:Int),inn,t)=some (t++tellC (who:Int) (r.1.2.1.getD who coZ).own inn xs):=by
  intro xs
  induction xs with
  | nil =>
   intro i inn t e hi ht
   have:i=l.length:=by
    have:=congrArg length e
    rw [List.length_drop] at this
    simp at this;omega
   refine loopO_end ?_
   simp only [F_cluster_run_tell_b1]
   rw [if_neg (by simp;omega)]
   simp [tellC]
  | cons x xs ih =>
   intro i inn t e hi ht
   have hi2:i<l.length:=by
    have:=congrArg length e
    rw [List.length_drop] at this
    simp at this;omega
   have e2:=List.drop_eq_getElem_cons hi2
   rw [← e] at e2
   injection e2 with e3 e4
   have eg:getD l i S48.dflt=x:=by
    have:l.getD i (S48.dflt:HaT)=l[i]:=getD_lt hi2
    rw [← e3] at this;exact this
   simp only [List.length_cons] at ht
   have hb:F_cluster_run_tell_b1 r (who:Int) l ((i:Int),inn,t)=some (.inl (((i+1:Nat):Int),(if x.1=true then x.2.2.1 else inn),t++[((who:Int),(r.1.2.1.getD who coZ).own,inn,x)])):=by
    simp only [F_cluster_run_tell_b1]
    rw [if_pos (by simp;omega),if_pos (by omega),if_pos (by omega),if_pos (apOk_s (by omega) (by omega))]
    simp only [Int.toNat_natCast,wi (show i<1000000000000 by omega),eg]
    by_cases q:x.1=true
    ·rw [if_pos q,if_pos q]
    ·rw [if_neg q,if_neg q]
   rw [loopO_go hb,ih (i+1) _ _ e4 (by omega) (by simp;omega)]
   simp only [tellC,List.append_assoc,List.cons_append,List.nil_append]
 have:=key l 0 inn r.2 rfl (Nat.zero_le _) hl
 have this:loopO (F_cluster_run_tell_b1 r (who:Int) l) (0,inn,r.2)=_:=this
 rw [this];rfl
structure okLe (w:MW FrT) (x:LeT):Prop where
 len:x.2.2.1.length=641
 bad:x.2.2.2=true→crcOk x.2.2.1=false
 good:x.2.2.2=false→∃p:PkT,okPk p∧w.pk (mpk p)∧x.2.2.1=pkS p
theorem okLe.mono {w w':MW FrT} (h:∀p,w.pk p→w'.pk p) {x:LeT} (k:okLe w x):okLe w' x :=
 ⟨k.len,k.bad,fun q=>let ⟨p,a,b,c⟩:=k.good q;⟨p,a,h _ b,c⟩⟩
structure Cs (n B:Nat) (pre:List (MT FrT)) (r:RuT):Prop where
 n8:n≤8
 wait:1≤r.1.1∧r.1.1≤1000
 cl:r.1.2.1.length=n
 ul:r.1.2.2.1.length=n
 co:∀i,i<n→okCo i B (r.1.2.1.getD i coZ)
 ll:r.1.2.2.2.length≤4096
 fit:∃w,InvM n w∧(∀i,i<n→w.c i=mc (r.1.2.1.getD i coZ))∧w.told=pre++r.2.map toM∧∀x∈r.1.2.2.2,okLe w x
 tk:∀t∈r.2,okTo t
 tl:r.2.length≤B
theorem getD_setC {l:List CoT} {i:Nat} {c:CoT} (hi:i<l.length) (k:Nat):(l.set i c).getD k coZ=if k=i then c else l.getD k coZ:=by
 simp only [List.getD_eq_getElem?_getD,List.getElem?_set]
 by_cases e:i=k
 ·subst e;simp [hi]
 ·simp [e,Ne.symm e]
theorem Cs.mono {n B B':Nat} {r:RuT} (h:Cs n B pre r) (hB:B≤B'):Cs n B' pre r :=
 ⟨h.n8,h.wait,h.cl,h.ul,fun i hi=>okCo_mono (h.co i hi) hB,h.ll,h.fit,h.tk,Nat.le_trans h.tl hB⟩
theorem Cs.core {n B:Nat} {r:RuT} {i:Nat} {c':CoT} {l':List HaT} (hi:i<n) (h:Cs n B pre r) (hl:l'.length≤4) (w:MW FrT)
  (s:St n i (B+9) w (rk (r.1.2.1.getD i coZ).conf) c' l') (hw:InvM n w) (hwc:∀i,i<n→w.c i=mc (r.1.2.1.getD i coZ)) (hwt:w.told=pre++r.2.map toM) :
  ∃w',InvM n w'∧(∀k,k<n→w'.c k=mc ((r.1.2.1.set i c').getD k coZ))∧w'.told=pre++(r.2++tellC (i:Int) (r.1.2.1.getD i coZ).own (r.1.2.1.getD i coZ).conf l').map toM∧w'.pk=w.pk∧okCo i (B+9) c'∧(∀t∈r.2++tellC (i:Int) (r.1.2.1.getD i coZ).own (r.1.2.1.getD i coZ).conf l',okTo t)∧(r.2++tellC (i:Int) (r.1.2.1.getD i coZ).own (r.1.2.1.getD i coZ).conf l').length≤B+9∧c'.own=(r.1.2.1.getD i coZ).own:=by
 obtain ⟨w',a1,a2,a3,a4,a5⟩:=s.fit
 have n8:=h.n8
 have hown:c'.own=(r.1.2.1.getD i coZ).own:=by
  have:=s.own
  rw [hwc i hi] at this
  exact this.symm
 have ho:=(h.co i hi).own
 obtain ⟨t1,t2⟩:=tellC_ok (who:=(i:Int)) (own:=(r.1.2.1.getD i coZ).own) (by omega) (by unfold U;omega) l' (r.1.2.1.getD i coZ).conf (h.co i hi).conf s.ha
 refine ⟨w',a1,fun k hk=>?_,?_,a5,s.ok,fun t ht=>?_,?_,hown⟩
 ·rw [getD_setC (by rw [h.cl];exact hi)]
  by_cases e:k=i
  ·rw [if_pos e,e];exact a3
  ·rw [if_neg e,a2 k e];exact hwc k hk
 ·rw [a4,hwt,hown,List.map_append,tellC_map,List.append_assoc]
 ·rcases List.mem_append.1 ht with ht|ht
  ·exact h.tk t ht
  ·exact t1 t ht
 ·have:=h.tl
  rw [List.length_append,t2];omega
def okDe (d:DeT):Prop:=d.2.2.2.2.1≤9223372036854775807∧∃a b c e f g:EnT,d.2.2.2.2.2.2=[[a,b],[c,e],[f,g]]
theorem f_has (r:RuT) (i:Int):∃b:Bool,F_cluster_run_has r i=some b∧(b=true→0≤i∧i<(r.1.2.1.length:Int)∧i<(r.1.2.2.1.length:Int)):=by
 unfold F_cluster_run_has
 by_cases h1:0≤i
 ·rw [if_pos (by simpa using h1)]
  by_cases h2:i<(r.1.2.1.length:Int)
  ·rw [if_pos (by simpa using h2)]
   by_cases h3:i<(r.1.2.2.1.length:Int)
   ·rw [if_pos (by simpa using h3),if_pos ⟨h1,h3⟩]
    exact ⟨_,rfl,fun _=>⟨h1,h2,h3⟩⟩
   ·rw [if_neg (by simpa using h3)]
    exact ⟨false,rfl,by simp⟩
  ·rw [if_neg (by simpa using h2)]
   exact ⟨false,rfl,by simp⟩
 ·rw [if_neg (by simpa using h1)]
  exact ⟨false,rfl,by simp⟩
theorem okCo_set {n B:Nat} {r:RuT} (h:Cs n B pre r) {i:Nat} {c':CoT} (hi:i<n) (ok:okCo i (B+9) c'):∀k,k<n→okCo k (B+9) ((r.1.2.1.set i c').getD k coZ):=by
 intro k hk
 rw [getD_setC (by rw [h.cl];exact hi)]
 split
 ·rename_i e;rw [e];exact ok
 ·exact okCo_mono (h.co k hk) (by omega)
theorem f_ctick {n B:Nat} {r:RuT} (h:Cs n B pre r) (hB:B+9≤700000) {i:Nat} (hi:i<n) {f:FrT} (hf:∃a b c e g k:EnT,f=[[a,b],[c,e],[g,k]]):∃r':RuT,F_cluster_run_tick r (i:Int) f=some r'∧Cs n (B+9) pre r':=by
 unfold F_cluster_run_tick
 have n8:=h.n8
 have hcl:=h.cl
 have hrg:0≤(i:Int)∧(i:Int)<(r.1.2.1.length:Int):=by omega
 obtain ⟨a,b,c,e,g,k,rfl⟩:=hf
 obtain ⟨z,ez,hz⟩:=f_fCheck a b c e g k
 rw [ez,Option.bind_some]
 have key:∃f':FrT,(if (z != 0)=true then some (replicate 3 (replicate 2 (0,0,0,0,0,[])) ) else some [[a,b],[c,e],[g,k]]:Option FrT)=some f'∧okFr f':=by
  by_cases q:z=0
  ·rw [if_neg (by simpa using q)];exact ⟨_,rfl,hz.1 q⟩
  ·rw [if_pos (by simpa using q)];exact ⟨frZ,rfl,okFr_zero⟩
 obtain ⟨f',ef,hf'⟩:=key
 rw [ef]
 simp only [Option.bind_some]
 obtain ⟨w,w1,w2,w3,w4⟩:=h.fit
 obtain ⟨c',bb,l',eT,sT,hl',hk'⟩:=f_Tick w1 hi (w2 i hi) (h.co i hi) (by omega) hf'
 obtain ⟨w',x1,x2,x3,x4,x5,x6,x7,x8⟩:=Cs.core hi h (c':=c') (l':=l') (by omega) w sT w1 w2 w3
 have eg:getD r.1.2.1 (toNat (i:Int)) S78.dflt=r.1.2.1.getD i coZ:=by rw [Int.toNat_natCast]
 rw [if_pos hrg,if_pos hrg,eg,eT,Option.bind_some,if_pos hrg]
 dsimp only
 have hset:(i:Nat)<(List.set r.1.2.1 (toNat (i:Int)) c').length:=by rw [List.length_set];omega
 have htl:=h.tl
 have et:=f_tell (r:=((r.1.1,List.set r.1.2.1 (toNat (i:Int)) c',r.1.2.2),r.2)) (who:=i) (inn:=(r.1.2.1.getD i coZ).conf) (l:=l') hset (by show r.2.length+_≤_;omega)
 have et':F_cluster_run_tell ((r.1.1,List.set r.1.2.1 (toNat (i:Int)) c',r.1.2.2),r.2) (i:Int) (r.1.2.1.getD i coZ).2.2.2.2.1 l'=_:=et
 rw [et',Option.bind_some]
 obtain ⟨p,ep,hp,hp1,hpI⟩:=f_Packet x5 (by omega)
 rw [ep,Option.bind_some,f_Encode hp,Option.bind_some]
 dsimp only
 have hw'c:w'.c i=mc c':=by rw [x2 i hi,getD_setC (by omega),if_pos rfl]
 have hIsP:IsP (w'.c i) i (mpk p):=by rw [hw'c];exact hpI x1 hi hw'c
 have I2:=st_send x1 hi hIsP
 have hnew:∀k:Nat,okLe { w' with pk:=fun q=>w'.pk q∨q=mpk p } ((i:Int),(k:Int),pkS p,false):=fun k=>⟨pkS_len hp,fun q=>absurd q (by simp),fun _=>⟨p,hp,.inr rfl,rfl⟩⟩
 have hold:∀x∈r.1.2.2.2,okLe { w' with pk:=fun q=>w'.pk q∨q=mpk p } x:=fun x hx=>(w4 x hx).mono (w':={ w' with pk:=fun q=>w'.pk q∨q=mpk p }) fun q hq=>Or.inl (by rw [x4];exact hq)
 have hown:((List.set r.1.2.1 (toNat (i:Int)) c').getD i coZ).own=(r.1.2.1.getD i coZ).own:=by
  rw [Int.toNat_natCast,getD_setC (by omega),if_pos rfl];exact x8
 have hl:=loop_rel (N:=r.1.2.1.length) (mk:=fun (k:Nat) (s:List LeT)=>((k:Int),(r.1.1,(),(),s),()))
  (body:=F_cluster_run_tick_b2 ((r.1.1,List.set r.1.2.1 (toNat (i:Int)) c',r.1.2.2),r.2++tellC (i:Int) ((List.set r.1.2.1 (toNat (i:Int)) c').getD i coZ).own (r.1.2.1.getD i coZ).conf l') (pkS p,0) (i:Int))
  (fun k s=>s.length≤4096∧∀x∈s,okLe { w' with pk:=fun q=>w'.pk q∨q=mpk p } x) (fun (q:(Int×Unit×Unit×List LeT)×Unit)=>∃s:List LeT,q=((r.1.1,(),(),s),())∧s.length≤4096∧∀x∈s,okLe { w' with pk:=fun q=>w'.pk q∨q=mpk p } x)
  (fun k s hk hs=>?_) (fun s hs=>?_) (s:=r.1.2.2.2) ⟨h.ll,hold⟩
 ·obtain ⟨q,eq,s,rfl,s1,s2⟩:=hl
  have eq':loopO (F_cluster_run_tick_b2 ((r.1.1,List.set r.1.2.1 (toNat (i:Int)) c',r.1.2.2),r.2++tellC (i:Int) ((List.set r.1.2.1 (toNat (i:Int)) c').getD i coZ).own (r.1.2.1.getD i coZ).conf l') (pkS p,0) (i:Int)) (0,(r.1.1,(),(),r.1.2.2.2),())=_:=eq
  rw [eq',Option.bind_some]
  refine ⟨_,rfl,⟨n8,h.wait,by show (List.set _ _ _).length=n;rw [List.length_set];exact hcl,h.ul,?_,s1,⟨_,I2,?_,?_,s2⟩,?_,?_⟩⟩
  ·show ∀k,k<n→okCo k (B+9) ((r.1.2.1.set (toNat (i:Int)) c').getD k coZ)
   rw [Int.toNat_natCast];exact okCo_set h hi x5
  ·show ∀k,k<n→w'.c k=mc ((r.1.2.1.set (toNat (i:Int)) c').getD k coZ)
   rw [Int.toNat_natCast];exact x2
  ·show w'.told=pre++List.map toM (r.2++tellC (i:Int) ((List.set r.1.2.1 (toNat (i:Int)) c').getD i coZ).own (r.1.2.1.getD i coZ).conf l')
   rw [hown];exact x3
  ·show ∀t∈r.2++tellC (i:Int) ((List.set r.1.2.1 (toNat (i:Int)) c').getD i coZ).own (r.1.2.1.getD i coZ).conf l',okTo t
   rw [hown];exact x6
  ·show (r.2++tellC (i:Int) ((List.set r.1.2.1 (toNat (i:Int)) c').getD i coZ).own (r.1.2.1.getD i coZ).conf l').length≤B+9
   rw [hown];exact x7
 ·simp only [F_cluster_run_tick_b2]
  have hN:((length (List.set r.1.2.1 (toNat (i:Int)) c'):Nat):Int)=(r.1.2.1.length:Int):=by rw [List.length_set]
  rw [hN,if_pos (by simp;omega),wi (by omega)]
  by_cases q:(k:Int)=(i:Int)
  ·rw [if_neg (by simpa using q)]
   exact ⟨s,rfl,hs⟩
  ·rw [if_pos (by simpa using q)]
   obtain ⟨s',es,hs1,hs2⟩:=f_Put (l:=s) (x:=((i:Int),(k:Int),pkS p,false)) hs.1
   simp only [Option.bind_some]
   rw [if_pos (by decide),es,Option.bind_some]
   refine ⟨s',rfl,hs1,fun x hx=>?_⟩
   rcases hs2 x hx with hx|rfl
   ·exact hs.2 x hx
   ·exact hnew k
 ·simp only [F_cluster_run_tick_b2]
  have hN:((length (List.set r.1.2.1 (toNat (i:Int)) c'):Nat):Int)=(r.1.2.1.length:Int):=by rw [List.length_set]
  rw [hN,if_neg (by simp)]
  exact ⟨_,rfl,s,rfl,hs⟩
variable {pre:List (MT FrT)}
theorem f_arrive {n B:Nat} {r:RuT} (h:Cs n B pre r) (hB:B+9≤700000) {x:LeT} (hx:∃w,InvM n w∧(∀i,i<n→w.c i=mc (r.1.2.1.getD i coZ))∧w.told=pre++r.2.map toM∧(∀y∈r.1.2.2.2,okLe w y)∧okLe w x):∃r':RuT,F_cluster_run_arrive r x=some r'∧Cs n (B+9) pre r':=by
 obtain ⟨w,w1,w2,w3,w4,wx⟩:=hx
 have n8:=h.n8
 have hcl:=h.cl
 have htl:=h.tl
 unfold F_cluster_run_arrive
 by_cases ht:x.2.2.2=true
 ·obtain ⟨p,ep⟩:=f_DecodeBad wx.len (wx.bad ht)
  rw [ep,Option.bind_some,if_pos (by simp)]
  exact ⟨r,rfl,h.mono (by omega)⟩
 ·obtain ⟨p,hp,hpk,et⟩:=wx.good (by simpa using ht)
  rw [et,f_Decode hp,Option.bind_some,if_neg (by simp)]
  obtain ⟨b,eb,hb⟩:=f_has r x.2.1
  rw [eb]
  simp only [Option.bind_some]
  cases b with
  | false=>exact ⟨r,rfl,h.mono (by omega)⟩
  | true =>
   obtain ⟨h1,h2,h3⟩:=hb rfl
   obtain ⟨i,ei⟩:∃i:Nat,x.2.1=(i:Int):=⟨x.2.1.toNat,by omega⟩
   have hi:i<n:=by omega
   have hrg:0≤(i:Int)∧(i:Int)<(r.1.2.1.length:Int):=by omega
   rw [if_neg (by decide),ei,if_pos hrg,if_pos hrg]
   obtain ⟨c',bb,l',eR,sR,hl',hk'⟩:=f_Receive w1 hi (w2 i hi) (h.co i hi) (by omega) hp hpk
   have eg:getD r.1.2.1 (toNat (i:Int)) S78.dflt=r.1.2.1.getD i coZ:=by rw [Int.toNat_natCast]
   rw [eg,eR,Option.bind_some,if_pos hrg]
   obtain ⟨w',x1,x2,x3,x4,x5,x6,x7,x8⟩:=Cs.core hi h (c':=c') (l':=l') (by omega) w sR w1 w2 w3
   have hset:(i:Nat)<(List.set r.1.2.1 (toNat (i:Int)) c').length:=by rw [List.length_set];omega
   have et:=f_tell (r:=((r.1.1,List.set r.1.2.1 (toNat (i:Int)) c',r.1.2.2),r.2)) (who:=i) (inn:=(r.1.2.1.getD i coZ).conf) (l:=l') hset (by show r.2.length+_≤_;omega)
   have et':F_cluster_run_tell ((r.1.1,List.set r.1.2.1 (toNat (i:Int)) c',r.1.2.2),r.2) (i:Int) (r.1.2.1.getD i coZ).2.2.2.2.1 l'=_:=et
   dsimp only
   rw [et',Option.bind_some]
   have hown:((List.set r.1.2.1 (toNat (i:Int)) c').getD i coZ).own=(r.1.2.1.getD i coZ).own:=by
    rw [Int.toNat_natCast,getD_setC (by omega),if_pos rfl];exact x8
   refine ⟨_,rfl,⟨n8,h.wait,by show (List.set _ _ _).length=n;rw [List.length_set];exact hcl,h.ul,?_,h.ll,⟨w',x1,?_,?_,fun y hy=>(w4 y hy).mono fun q hq=>by rw [x4];exact hq⟩,?_,?_⟩⟩
   ·show ∀k,k<n→okCo k (B+9) ((r.1.2.1.set (toNat (i:Int)) c').getD k coZ)
    rw [Int.toNat_natCast];exact okCo_set h hi x5
   ·show ∀k,k<n→w'.c k=mc ((r.1.2.1.set (toNat (i:Int)) c').getD k coZ)
    rw [Int.toNat_natCast];exact x2
   ·show w'.told=pre++List.map toM (r.2++tellC (i:Int) ((List.set r.1.2.1 (toNat (i:Int)) c').getD i coZ).own (r.1.2.1.getD i coZ).conf l')
    rw [hown];exact x3
   ·show ∀t∈r.2++tellC (i:Int) ((List.set r.1.2.1 (toNat (i:Int)) c').getD i coZ).own (r.1.2.1.getD i coZ).conf l',okTo t
    rw [hown];exact x6
   ·show (r.2++tellC (i:Int) ((List.set r.1.2.1 (toNat (i:Int)) c').getD i coZ).own (r.1.2.1.getD i coZ).conf l').length≤B+9
    rw [hown];exact x7
theorem f_letter {n B:Nat} {r:RuT} (h:Cs n B pre r) (hB:B+9≤700000) {d:DeT} (hd:okDe d):∃r':RuT,F_cluster_run_letter r d=some r'∧Cs n (B+9) pre r':=by
 unfold F_cluster_run_letter
 have hll:=h.ll
 obtain ⟨w,w1,w2,w3,w4⟩:=h.fit
 by_cases k4:d.1=4
 ·rw [if_pos (by simpa using k4)]
  obtain ⟨l',el,hl1,hl2⟩:=f_Turn (l:=r.1.2.2.2) (by omega) (fun x hx=>by rw [(w4 x hx).len];decide) d.2.1 d.2.2.1 d.2.2.2.1 (z:=d.2.2.2.2.1) (m:=d.2.2.2.2.2.1) hd.1
  rw [el,Option.bind_some]
  refine ⟨_,rfl,⟨h.n8,h.wait,h.cl,h.ul,fun i hi=>okCo_mono (h.co i hi) (by omega),by show l'.length≤4096;omega,⟨w,w1,w2,w3,fun y hy=>?_⟩,h.tk,by have:=h.tl;show r.2.length≤_;omega⟩⟩
  rcases hl2 y hy with hy|⟨v,hv,v1,v2,v3,v4,⟨a,xx,yy,c,b1,b2,b3,b4⟩,v6⟩
  ·exact w4 y hy
  ·have wv:=w4 v hv
   obtain ⟨p,hp,hpk,et⟩:=wv.good v1
   refine ⟨v4.trans wv.len,fun q=>?_,fun q=>?_⟩
   ·rw [Bool.eq_false_iff]
    intro hc
    have hs:crcOk v.2.2.1=true:=by rw [et];exact crcOk_seal _
    rw [b1] at hs
    rw [b2] at hc
    have hlen:=wv.len
    rw [b1] at hlen
    have:=crcOk_burst b3 b4 (by omega) hs hc
    exact v6.1 q (by rw [b1,b2,this])
   ·refine ⟨p,hp,hpk,?_⟩
    rw [← et]
    by_cases e:y.2.2.1=v.2.2.1
    ·exact e
    ·rw [v6.2 e] at q;cases q
 ·rw [if_neg (by simpa using k4)]
  obtain ⟨l',y,b,et,hb⟩:=f_LTake (l:=r.1.2.2.2) (by omega) d.2.1 d.2.2.1 d.2.2.2.1
  rw [et,Option.bind_some]
  cases b with
  | false=>exact ⟨r,rfl,h.mono (by omega)⟩
  | true =>
   obtain ⟨b1,b2,b3⟩:=hb rfl
   have h':Cs n B pre ((r.1.1,r.1.2.1,r.1.2.2.1,l'),r.2):=⟨h.n8,h.wait,h.cl,h.ul,h.co,by show l'.length≤4096;omega,⟨w,w1,w2,w3,fun z hz=>w4 z (b3 z hz)⟩,h.tk,h.tl⟩
   rw [if_neg (by simp)]
   by_cases k2:d.1=2
   ·rw [if_neg (by simpa using k2),if_pos (by simp [k2])]
    obtain ⟨r',er,hr⟩:=f_arrive h hB (x:=y) ⟨w,w1,w2,w3,w4,w4 y b1⟩
    rw [er]
    exact ⟨r',rfl,hr⟩
   ·rw [if_pos (by simpa using k2)]
    by_cases k3:d.1=3
    ·rw [if_neg (by simpa using k3)]
     exact ⟨_,rfl,h'.mono (by omega)⟩
    ·rw [if_pos (by simpa using k3)]
     obtain ⟨r',er,hr⟩:=f_arrive h' hB (x:=y) ⟨w,w1,w2,w3,fun z hz=>w4 z (b3 z hz),w4 y b1⟩
     rw [er]
     exact ⟨r',rfl,hr⟩
theorem f_up {n B:Nat} {r:RuT} (h:Cs n B pre r) (x:Int):∃r':RuT,F_cluster_run_up r x=some r'∧Cs n (B+9) pre r':=by
 unfold F_cluster_run_up
 have n8:=h.n8
 have hcl:=h.cl
 have hul:=h.ul
 have htl:=h.tl
 by_cases h1:x<0
 ·rw [if_pos (by simpa using h1)];exact ⟨r,rfl,h.mono (by omega)⟩
 ·rw [if_neg (by simpa using h1)]
  by_cases h2:x≥(r.1.2.1.length:Int)
  ·rw [if_pos (by simpa using h2)];exact ⟨r,rfl,h.mono (by omega)⟩
  ·rw [if_neg (by simpa using h2)]
   by_cases h3:x≥(r.1.2.2.1.length:Int)
   ·rw [if_pos (by simpa using h3)];exact ⟨r,rfl,h.mono (by omega)⟩
   ·obtain ⟨i,rfl⟩:∃i:Nat,x=(i:Int):=⟨x.toNat,by omega⟩
    have hi:i<n:=by omega
    have hrg:0≤(i:Int)∧(i:Int)<(r.1.2.1.length:Int):=by omega
    have hrg2:0≤(i:Int)∧(i:Int)<(r.1.2.2.1.length:Int):=by omega
    rw [if_neg (by simpa using h3),if_pos hrg2]
    by_cases h4:getD r.1.2.2.1 (toNat (i:Int)) false=true
    ·rw [if_pos h4];exact ⟨r,rfl,h.mono (by omega)⟩
    ·rw [if_neg h4,if_pos hrg]
     have eg:getD r.1.2.1 (toNat (i:Int)) S78.dflt=r.1.2.1.getD i coZ:=by rw [Int.toNat_natCast]
     rw [eg]
     simp only [Option.bind_some]
     have ok:=h.co i hi
     have ho:=ok.own
     by_cases h5:(r.1.2.1.getD i coZ).own=4294967295
     ·have h5':((r.1.2.1.getD i coZ).2.2.1==4294967295)=true:=by simpa using h5
      rw [if_pos h5'];exact ⟨r,rfl,h.mono (by omega)⟩
     ·have h5':¬((r.1.2.1.getD i coZ).2.2.1==4294967295)=true:=by simpa using h5
      have ew:wrap .u32 ((r.1.2.1.getD i coZ).2.2.1+1)=(r.1.2.1.getD i coZ).own+1:=wr32 (show 0≤(r.1.2.1.getD i coZ).own+1∧(r.1.2.1.getD i coZ).own+1≤4294967295 by omega)
      rw [if_neg h5',if_pos hrg,ew]
      obtain ⟨c,b,es,hb,hc⟩:=f_Start (i:=i) (o:=(r.1.2.1.getD i coZ).own+1) (wt:=r.1.1) (by omega) (by omega)
      rw [es,Option.bind_some]
      have hbt:b=true:=by rw [hb];exact decide_eq_true h.wait
      subst hbt
      obtain ⟨c1,c2,c3,c4⟩:=hc rfl
      rw [if_pos rfl,if_pos hrg,if_pos hrg2]
      obtain ⟨w,w1,w2,w3,w4⟩:=h.fit
      have hwo:(w.c i).own=(r.1.2.1.getD i coZ).own:=by rw [w2 i hi];rfl
      have I2:=st_restart w1 hi (x:=mc c) (by rw [hwo];exact c2) (by rw [hwo];omega)
      refine ⟨_,rfl,⟨n8,h.wait,by show (List.set _ _ _).length=n;rw [List.length_set];exact hcl,by show (List.set _ _ _).length=n;rw [List.length_set];exact hul,?_,h.ll,⟨_,I2,fun k hk=>?_,w3,fun y hy=>⟨(w4 y hy).len,(w4 y hy).bad,(w4 y hy).good⟩⟩,h.tk,by show r.2.length≤_;omega⟩⟩
      ·show ∀k,k<n→okCo k (B+9) ((r.1.2.1.set (toNat (i:Int)) c).getD k coZ)
       rw [Int.toNat_natCast];exact okCo_set h hi (okCo_mono c1 (by omega))
      ·show (w.put i (mc c)).c k=mc ((r.1.2.1.set (toNat (i:Int)) c).getD k coZ)
       rw [Int.toNat_natCast,getD_setC (by omega)]
       by_cases e:k=i
       ·rw [e,put_same,if_pos rfl]
       ·rw [put_other _ _ e,if_neg e];exact w2 k hk
theorem f_step {n B:Nat} {r:RuT} (h:Cs n B pre r) (hB:B+9≤700000) {d:DeT} (hd:okDe d):∃r':RuT,F_cluster_run_step r d=some r'∧Cs n (B+9) pre r':=by
 unfold F_cluster_run_step
 have hcl:=h.cl
 have hul:=h.ul
 by_cases k0:d.1=0
 ·rw [if_pos (by simpa using k0)]
  obtain ⟨b,eb,hb⟩:=f_has r d.2.1
  rw [eb,Option.bind_some]
  cases b with
  | false=>exact ⟨r,rfl,h.mono (by omega)⟩
  | true =>
   obtain ⟨h1,h2,h3⟩:=hb rfl
   obtain ⟨i,ei⟩:∃i:Nat,d.2.1=(i:Int):=⟨d.2.1.toNat,by omega⟩
   obtain ⟨r',er,hr⟩:=f_ctick h hB (i:=i) (by omega) hd.2
   rw [if_pos rfl,ei,er]
   exact ⟨r',rfl,hr⟩
 ·rw [if_neg (by simpa using k0)]
  have key:∃z:Bool,(if (d.1==1)=true then some (d.1==1) else if (d.1==2)=true then some (d.1==2) else if (d.1==3)=true then some (d.1==3) else some (d.1==4):Option Bool)=some z:=by
   split
   ·exact ⟨_,rfl⟩
   ·split
    ·exact ⟨_,rfl⟩
    ·split<;>exact ⟨_,rfl⟩
  obtain ⟨z,ez⟩:=key
  rw [ez]
  simp only [Option.bind_some]
  cases z with
  | true =>
   obtain ⟨r',er,hr⟩:=f_letter h hB hd
   rw [if_pos rfl,er]
   exact ⟨r',rfl,hr⟩
  | false =>
   rw [if_neg (by decide)]
   by_cases k5:d.1=5
   ·rw [if_pos (by simpa using k5)]
    obtain ⟨b,eb,hb⟩:=f_has r d.2.1
    rw [eb,Option.bind_some]
    cases b with
    | false=>exact ⟨r,rfl,h.mono (by omega)⟩
    | true =>
     obtain ⟨h1,h2,h3⟩:=hb rfl
     rw [if_pos rfl,if_pos ⟨h1,h3⟩]
     exact ⟨_,rfl,⟨h.n8,h.wait,hcl,by show (List.set _ _ _).length=n;rw [List.length_set];exact hul,fun i hi=>okCo_mono (h.co i hi) (by omega),h.ll,h.fit,h.tk,by have:=h.tl;show r.2.length≤_;omega⟩⟩
   ·rw [if_neg (by simpa using k5)]
    by_cases k6:d.1=6
    ·rw [if_pos (by simpa using k6)]
     obtain ⟨r',er,hr⟩:=f_up h d.2.1
     rw [er]
     exact ⟨r',rfl,hr⟩
    ·rw [if_neg (by simpa using k6)]
     exact ⟨r,rfl,h.mono (by omega)⟩
def mw0 (n:Nat) (l:List CoT):MW FrT where
 c:=fun i=>mc (l.getD i coZ)
 told:=[]
 pk:=fun _=>False
 T:=fun d=>if ep d=0∧co d<n∧ic d=1 then some fun k=>if k=co d then 1 else 0 else none
 pr:=fun _ _ _=>none
 rd:=fun _ _ _=>False
theorem f_Begin (d wt:Int):∃c:ClT,∃b:Bool,F_cluster_Begin d wt=some (c,b)∧(b=true→Cs d.toNat 0 [] (c,[])∧c.2.2.2=[]):=by
 unfold F_cluster_Begin
 by_cases h1:d<1
 ·rw [if_pos (by simpa using h1)]
  exact ⟨_,false,rfl,by simp⟩
 ·rw [if_neg (by simpa using h1)]
  simp only [Option.bind_some]
  by_cases h2:d>8
  ·rw [if_pos (by simpa using h2)]
   exact ⟨_,false,rfl,by simp⟩
  ·rw [if_neg (by simpa using h2)]
   obtain ⟨n,rfl⟩:∃n:Nat,d=(n:Int):=⟨d.toNat,by omega⟩
   have hn8:n≤8:=by omega
   by_cases hw:1≤wt∧wt≤1000
   ·have hl:=loop_rel (N:=n) (mk:=fun (k:Nat) (s:List CoT×List Bool)=>((k:Int),s.1,s.2)) (body:=F_cluster_Begin_b2 (n:Int) wt)
     (fun k s=>s.1.length=k∧s.2.length=k∧∀i,i<k→okCo i 0 (s.1.getD i coZ)∧IsB i 1 (mc (s.1.getD i coZ)))
     (fun (q:(ClT×Bool)⊕(List CoT×List Bool))=>∃s:List CoT×List Bool,q=.inr s∧s.1.length=n∧s.2.length=n∧∀i,i<n→okCo i 0 (s.1.getD i coZ)∧IsB i 1 (mc (s.1.getD i coZ))) (fun k s hk hs=>?_) (fun s hs=>?_) (s:=([],[])) ⟨rfl,rfl,fun i hi=>absurd hi (by omega)⟩
    ·obtain ⟨q,eq,s,rfl,s1,s2,s3⟩:=hl
     have eq':loopO (F_cluster_Begin_b2 (n:Int) wt) (0,[],[])=_:=eq
     rw [eq',Option.bind_some]
     refine ⟨_,true,rfl,fun _=>⟨⟨hn8,hw,s1,s2,fun i hi=>(s3 i hi).1,by show 0≤4096;omega,⟨mw0 n s.1,?_,fun i _=>rfl,rfl,fun x hx=>absurd hx (List.not_mem_nil)⟩,fun t ht=>absurd ht (List.not_mem_nil),Nat.le_refl _⟩,rfl⟩⟩
     exact inv_begin hn8 (fun i hi=>(s3 i hi).2) rfl (fun p h=>h) rfl (fun k i d x h=>by cases h) (fun k i d h=>h)
    ·obtain ⟨c,b,ec,hb,hc⟩:=f_Start (i:=k) (o:=1) (wt:=wt) (by omega) (by omega)
     have hbt:b=true:=by rw [hb];exact decide_eq_true hw
     subst hbt
     obtain ⟨c1,c2,c3,c4⟩:=hc rfl
     obtain ⟨s1,s2,s3⟩:=hs
     refine ⟨(s.1++[c],s.2++[true]),?_,by simp [s1],by simp [s2],fun i hi=>?_⟩
     ·simp only [F_cluster_Begin_b2]
      rw [if_pos (by simp;omega),ec,Option.bind_some,if_neg (by simp),if_pos (apOk_s (by omega) (by omega)),if_pos (apOk_s (by omega) (by omega)),wi (by omega)]
     ·by_cases e:i=k
      ·subst e
       have:(s.1++[c]).getD i coZ=c:=by
        rw [List.getD_eq_getElem?_getD,List.getElem?_append_right (by omega),s1];simp
       rw [this];exact ⟨c1,c2⟩
      ·have:(s.1++[c]).getD i coZ=s.1.getD i coZ:=by
        rw [List.getD_eq_getElem?_getD,List.getD_eq_getElem?_getD,List.getElem?_append_left (by omega)]
       rw [this];exact s3 i (by omega)
    ·refine ⟨_,?_,s,rfl,hs⟩
     simp only [F_cluster_Begin_b2]
     rw [if_neg (by simp)]
   ·obtain ⟨c,b,ec,hb,hc⟩:=f_Start (i:=0) (o:=1) (wt:=wt) (by omega) (by omega)
    have hbf:b=false:=by rw [hb];exact decide_eq_false hw
    subst hbf
    have e0:F_cluster_Begin_b2 (n:Int) wt (0,[],[])=some (.inr (.inl ((0,[],[],[]),false))):=by
     simp only [F_cluster_Begin_b2]
     have ec':F_core_Start 0 1 wt=some (c,false):=ec
     rw [if_pos (by simp;omega),ec',Option.bind_some,if_pos (by simp)]
    rw [loopO_end e0]
    exact ⟨_,false,rfl,by simp⟩
def cS (k:Int) (K:List KpT):CoT:=(0,3,1,(k,replicate 8 0,replicate 8 0),(0,0,1),[1,0,0,0,0,0,0,0],[k,0,0,0,0,0,0,0],K,(0,0,1),[1,0,0,0,0,0,0,0],replicate 8 0,false,replicate 8 (0,(0,0,0),(0,0,0),replicate 8 0,false),0)
theorem s_start:F_core_Start 0 1 3=some (cS 0 [],true):=by
 unfold F_core_Start
 have w:wrap .u32 0=0:=by decide
 simp [w,cS]
theorem s_reach {k:Int}:F_beat_Reach (k,replicate 8 0,replicate 8 0) 0 1 3=some [1,0,0,0,0,0,0,0]:=by
 unfold F_beat_Reach
 have hl:=loop_for (N:=8) (mk:=fun (k:Nat) (s:List Int)=>((k:Int),s)) (body:=F_beat_Reach_b1 (k,replicate 8 0,replicate 8 0) 3) (fun k s=>s) (fun s=>s) (fun k s=>s=replicate 8 0) (fun i s hi hs=>?_) (fun s _=>?_) (s:=replicate 8 0) rfl
 ·obtain ⟨e,i8⟩:=hl
  have e:loopO (F_beat_Reach_b1 (k,replicate 8 0,replicate 8 0) 3) (0,replicate 8 0)=_:=e
  rw [e,i8];rfl
 ·refine ⟨?_,hs⟩
  simp only [F_beat_Reach_b1]
  have hz:(replicate 8 (0:Int)).getD (toNat (i:Int)) 0=0:=getD_zero _
  rw [if_pos (by simp;omega),if_pos (by omega),hz,if_neg (by decide)]
  simp only [Option.bind_some]
  rw [if_neg (by decide),wi (by omega)]
 ·simp only [F_beat_Reach_b1]
  rw [if_neg (by simp)]
theorem s_idI:idI [1,0,0,0,0,0,0,0]=[0]:=by decide
theorem s_unsettled {k:Int} {K:List KpT} {b:Int}:F_core_under_unsettled ((0,3,1,(b,replicate 8 0,replicate 8 0),(cS k K).2.2.2.2),[]) [1,0,0,0,0,0,0,0]=some false:=by
 unfold F_core_under_unsettled F_core_Gathers
 have q1:Sh.eqb S36 (cS k K).2.2.2.2.2.2.2.2.1 (cS k K).2.2.2.2.1=true:=(by decide:Sh.eqb S36 ((0,0,1):I3) ((0,0,1):I3)=true)
 rw [Option.bind_some,if_neg (by rw [q1];decide)]
 simp only [Option.bind_some]
 have q2:Sh.eqb (.arr 8 (.int .u32)) [1,0,0,0,0,0,0,0] (cS k K).2.2.2.2.2.1=true:=(by decide:Sh.eqb (.arr 8 (.int .u32)) [1,0,0,0,0,0,0,0] [1,0,0,0,0,0,0,0]=true)
 rw [if_neg (by rw [q2];decide),f_List,s_idI]
 simp only [Option.bind_some]
 have:∀H:Int→Option Bool,H 0=some false→F_slices_ContainsFunc_int_int [0] H=some false:=by
  intro H hH
  unfold F_slices_ContainsFunc_int_int F_slices_IndexFunc_int_int
  have g0:F_slices_IndexFunc_int_int_b1 [0] H 0=some (.inl 1):=by
   simp only [F_slices_IndexFunc_int_int_b1]
   rw [if_pos (by decide),if_pos (by decide)]
   have:H (getD [0] (toNat 0) 0)=some false:=hH
   rw [this,Option.bind_some,wr (by decide)];rfl
  have g1:F_slices_IndexFunc_int_int_b1 [0] H 1=some (.inr (.inr ())):=by
   simp only [F_slices_IndexFunc_int_int_b1]
   rw [if_neg (by decide)]
  rw [loopO_go g0,loopO_end g1];rfl
 rw [this _ (by rfl)]
 rfl
theorem s_May {k:Int} (hk:0≤k∧k≤10):F_round_May [k,0,0,0,0,0,0,0] [1,0,0,0,0,0,0,0] 0=some true:=by
 unfold F_round_May F_round_Least
 rw [f_List,s_idI]
 have g0:F_round_Least_b1 [0] [k,0,0,0,0,0,0,0] (4294967295,0)=some (.inl (k,1)):=by
  simp only [F_round_Least_b1]
  have e1:mn 4294967295 (getD [k,0,0,0,0,0,0,0] (toNat (getD [0] (toNat 0) 0)) 0)=k:=by rw [mne];show min 4294967295 k=k;omega
  rw [if_pos (by decide),if_pos (by decide),if_pos (by decide),e1,wr (by decide)];rfl
 have g1:F_round_Least_b1 [0] [k,0,0,0,0,0,0,0] (k,1)=some (.inr k):=by
  simp only [F_round_Least_b1]
  rw [if_neg (by simp)]
 simp only [Option.bind_some]
 rw [if_neg (by decide),loopO_go g0,loopO_end g1]
 simp only [Option.bind_some]
 rw [f_member,Option.bind_some,if_pos (by decide),if_pos (by decide)]
 simp
theorem s_okCo {k:Int} (hk:0≤k∧k≤10) {K:List KpT} (hK:∀x∈K,okKp x) (hl:K.length≤10):okCo 0 10 (cS k K):=by
 have z8:=ok8_zero
 have o8:ok8 [1,0,0,0,0,0,0,0]:=⟨rfl,by decide⟩
 have id1:okId (0,0,1):=⟨⟨by decide,by decide,by decide⟩,by decide⟩
 refine ⟨by decide,rfl,⟨show (1:Int)≤3 by decide,show (3:Int)≤1000 by decide⟩,⟨show (1:Int)≤1 by decide,show (1:Int)≤4294967295 by decide⟩,⟨by show 0≤k∧k≤4294967295;omega,z8,z8⟩,id1,o8,⟨rfl,fun x hx=>?_⟩,hK,hl,id1,o8,z8,rfl,fun x hx=>?_,by show U 0;decide⟩
 ·simp only [cS,CoT.cnt,List.mem_cons,List.not_mem_nil,or_false] at hx
  rcases hx with rfl|rfl|rfl|rfl|rfl|rfl|rfl|rfl<;>omega
 ·obtain rfl:=mem_rep hx
  exact ⟨by decide,⟨by decide,by decide,by decide⟩,⟨by decide,by decide,by decide⟩,z8⟩
theorem s_Tick {k:Int} (hk:0≤k∧k≤5) {K:List KpT} (hK:∀x∈K,okKp x) (hl:K.length≤5):∃K':List KpT,F_core_Tick (cS k K) frZ=some (cS (k+1) K',true,[haF (0,k+1,frZ)])∧(∀x∈K',okKp x)∧K'.length≤K.length+1:=by
 have ok:=s_okCo (k:=k) (by omega) hK (by omega)
 refine ⟨K.filter (keepB (0,k+1,frZ))++[(0,k+1,frZ)],?_,fun x hx=>?_,?_⟩
 ·unfold F_core_Tick
  rw [f_begun (by show K.length≤_;omega),Option.bind_some,f_fits ok,Option.bind_some,if_neg (by decide)]
  have e1:F_beat_Tick (cS k K).2.2.2.1=some (k+1,replicate 8 0,replicate 8 0):=by
   unfold F_beat_Tick
   rw [if_pos (by show decide (k<4294967295)=true;exact decide_eq_true (by omega))]
   show some (wrap .u32 (k+1),_)=_
   rw [wr32 (by omega)];rfl
  dsimp only
  rw [e1,Option.bind_some]
  have e2:F_beat_Reach (k+1,replicate 8 0,replicate 8 0) (cS k K).1 (cS k K).2.2.1 (wrap .u32 (cS k K).2.1)=some [1,0,0,0,0,0,0,0]:=by
   have:wrap .u32 (cS k K).2.1=3:=by show wrap .u32 3=3;decide
   rw [this];exact s_reach
  rw [e2,Option.bind_some]
  have e3:F_core_under_unsettled (((cS k K).1,(cS k K).2.1,(cS k K).2.2.1,(k+1,replicate 8 0,replicate 8 0),(cS k K).2.2.2.2),[]) [1,0,0,0,0,0,0,0]=some false:=s_unsettled
  rw [e3,Option.bind_some,if_neg (by decide),Option.bind_some]
  dsimp only
  have e4:F_core_under_goOn (((cS k K).1,(cS k K).2.1,(cS k K).2.2.1,(k+1,replicate 8 0,replicate 8 0),(cS k K).2.2.2.2),[])=some (((cS k K).1,(cS k K).2.1,(cS k K).2.2.1,(k+1,replicate 8 0,replicate 8 0),(cS k K).2.2.2.2),[]):=by
   unfold F_core_under_goOn F_core_Gathers
   rw [Option.bind_some,if_pos (by show (!!Sh.eqb S36 ((0,0,1):I3) ((0,0,1):I3))=true;decide)]
  rw [e4,Option.bind_some]
  have e5:F_core_under_emit (((cS k K).1,(cS k K).2.1,(cS k K).2.2.1,(k+1,replicate 8 0,replicate 8 0),(cS k K).2.2.2.2),[]) frZ=some (true,cS (k+1) (K.filter (keepB (0,k+1,frZ))++[(0,k+1,frZ)]),[haF (0,k+1,frZ)]):=by
   unfold F_core_under_emit F_core_Gathers
   have m:F_round_May (cS k K).2.2.2.2.2.2.1 (cS k K).2.2.2.2.2.1 (cS k K).1=some true:=s_May (by omega)
   rw [Option.bind_some,if_neg (by show ¬(!Sh.eqb S36 ((0,0,1):I3) ((0,0,1):I3))=true;decide)]
   dsimp only
   rw [m,Option.bind_some,if_neg (by decide),if_pos (by show (0:Int)≤0∧(0:Int)<8;decide)]
   have w:wrap .u32 (getD (cS k K).2.2.2.2.2.2.1 (toNat (cS k K).1) 0+1)=k+1:=wr32 (show 0≤k+1∧k+1≤4294967295 by omega)
   have nm:¬(getD (cS k K).2.2.2.2.2.2.1 (toNat (cS k K).1) 0==4294967295)=true:=by
    show ¬(k==4294967295)=true
    simp;omega
   rw [Option.bind_some,if_neg nm,if_pos (by show (0:Int)≤0∧(0:Int)<8;decide),w]
   have eT:=f_kTake (l:=K) (c:=[k,0,0,0,0,0,0,0]) (m:=[1,0,0,0,0,0,0,0]) (x:=(0,k+1,frZ)) (by omega) (s_okCo (k:=k) (by omega) hK (by omega)).cnt (by simp only;omega)
   rw [if_pos (tkB_iff.2 ⟨⟨0,rfl,by decide,by decide⟩,by show k≠_;omega,rfl⟩)] at eT
   have eT':F_kept_Take (cS k K).2.2.2.2.2.2.2.1 (cS k K).2.2.2.2.2.2.1 (cS k K).2.2.2.2.2.1 ((cS k K).1,k+1,frZ)=_:=eT
   rw [eT',Option.bind_some,if_pos rfl,f_frames (by simp),Option.bind_some]
   rfl
  rw [e5,Option.bind_some]
 ·rcases List.mem_append.1 hx with h|h
  ·exact hK x (List.mem_filter.1 h).1
  ·obtain rfl:=List.mem_singleton.1 h
   exact ⟨by show (0:Int)≤0∧(0:Int)≤7;decide,by show U (k+1);unfold U;omega,okFr_zero⟩
 ·have:=List.length_filter_le (keepB (0,k+1,frZ)) K
  rw [List.length_append]
  show _+1≤_
  omega
abbrev deT:DeT:=(0,0,0,0,0,0,frZ)
theorem s_step {k:Int} (hk:0≤k∧k≤5) {K:List KpT} (hK:∀x∈K,okKp x) (hl:K.length≤5) {t:List ToT} (ht:t.length≤10):∃K':List KpT,F_cluster_run_step ((3,[cS k K],[true],[]),t) deT=some ((3,[cS (k+1) K'],[true],[]),t++[(0,1,(0,0,1),haF (0,k+1,frZ))])∧(∀x∈K',okKp x)∧K'.length≤K.length+1:=by
 obtain ⟨K',eT,hK',hl'⟩:=s_Tick hk hK hl
 refine ⟨K',?_,hK',hl'⟩
 unfold F_cluster_run_step
 rw [if_pos (by decide)]
 have e0:F_cluster_run_has ((3,[cS k K],[true],[]),t) 0=some true:=rfl
 have e1:F_cluster_run_tick ((3,[cS k K],[true],[]),t) 0 frZ=some ((3,[cS (k+1) K'],[true],[]),t++[(0,1,(0,0,1),haF (0,k+1,frZ))]):=by
  unfold F_cluster_run_tick
  rw [f_fCheck0 okFr_zero,Option.bind_some,if_neg (by decide),Option.bind_some,if_pos (by simp),if_pos (by simp)]
  have eT':F_core_Tick (getD [cS k K] (toNat 0) S78.dflt) frZ=_:=eT
  dsimp only
  rw [eT',Option.bind_some,if_pos (by simp)]
  have et:=f_tell (r:=((3,[cS (k+1) K'],[true],[]),t)) (who:=0) (inn:=(0,0,1)) (l:=[haF (0,k+1,frZ)]) (by show 0<1;decide) (by simp;omega)
  have et':F_cluster_run_tell ((3,List.set [cS k K] (toNat 0) (cS (k+1) K'),[true],[]),t) 0 (getD [cS k K] (toNat 0) S78.dflt).2.2.2.2.1 [haF (0,k+1,frZ)]=_:=et
  dsimp only
  rw [et',Option.bind_some]
  have ok:=s_okCo (k:=k+1) (K:=K') (by omega) hK' (by omega)
  obtain ⟨p,ep,hp,_,_⟩:=f_Packet ok (by decide)
  rw [ep,Option.bind_some,f_Encode hp,Option.bind_some]
  have g0:∀(T:List ToT),F_cluster_run_tick_b2 ((3,[cS (k+1) K'],[true],[]),T) (pkS p,0) 0 (0,(3,(),(),[]),())=some (.inl (1,(3,(),(),[]),())):=by
   intro T
   simp only [F_cluster_run_tick_b2]
   rw [if_pos (by simp),if_neg (by decide)]
   simp only [Option.bind_some]
   rw [if_neg (by decide),wr (by decide)];rfl
  have g1:∀(T:List ToT),F_cluster_run_tick_b2 ((3,[cS (k+1) K'],[true],[]),T) (pkS p,0) 0 (1,(3,(),(),[]),())=some (.inr ((3,(),(),[]),())):=by
   intro T
   simp only [F_cluster_run_tick_b2]
   rw [if_neg (by simp)]
  dsimp only
  rw [loopO_go (g0 _),loopO_end (g1 _)]
  rfl
 show (F_cluster_run_has ((3,[cS k K],[true],[]),t) 0).bind _=_
 rw [e0,Option.bind_some,if_pos rfl]
 show (F_cluster_run_tick ((3,[cS k K],[true],[]),t) 0 frZ).bind _=_
 rw [e1];rfl
theorem f_fixed:F_congresslaw15_fixed=some true:=by
 unfold F_congresslaw15_fixed
 have b1:F_cluster_Begin 1 3=some ((3,[cS 0 []],[true],[]),true):=by
  unfold F_cluster_Begin
  rw [if_neg (by decide),Option.bind_some,if_neg (by decide)]
  have g0:F_cluster_Begin_b2 1 3 (0,[],[])=some (.inl (1,[cS 0 []],[true])):=by
   simp only [F_cluster_Begin_b2]
   rw [if_pos (by decide),s_start,Option.bind_some,if_neg (by simp),if_pos (apOk_s (by decide) (by decide)),if_pos (apOk_s (by decide) (by decide)),wr (by decide)];rfl
  have g1:F_cluster_Begin_b2 1 3 (1,[cS 0 []],[true])=some (.inr (.inr ([cS 0 []],[true]))):=by
   simp only [F_cluster_Begin_b2]
   rw [if_neg (by decide)]
  rw [loopO_go g0,loopO_end g1];rfl
 have b2:F_cluster_Begin 9 3=some ((0,[],[],[]),false):=by
  unfold F_cluster_Begin
  rw [if_neg (by decide),Option.bind_some,if_pos (by decide)]
 rw [b1,Option.bind_some,b2,Option.bind_some]
 obtain ⟨K1,s1,k1,l1⟩:=s_step (k:=0) (by decide) (K:=[]) (fun x hx=>absurd hx (List.not_mem_nil)) (by decide) (t:=[]) (by decide)
 obtain ⟨K2,s2,k2,l2⟩:=s_step (k:=1) (by decide) (K:=K1) k1 (by simp at l1;omega) (t:=[(0,1,(0,0,1),haF (0,1,frZ))]) (by decide)
 obtain ⟨K3,s3,k3,l3⟩:=s_step (k:=2) (by decide) (K:=K2) k2 (by simp at l1;omega) (t:=[(0,1,(0,0,1),haF (0,1,frZ)),(0,1,(0,0,1),haF (0,2,frZ))]) (by decide)
 have r:F_cluster_Run (3,[cS 0 []],[true],[]) [deT,deT,deT]=some ((3,[cS 3 K3],[true],[]),[(0,1,(0,0,1),haF (0,1,frZ)),(0,1,(0,0,1),haF (0,2,frZ)),(0,1,(0,0,1),haF (0,3,frZ))]):=by
  unfold F_cluster_Run
  rw [f_cloneB (by decide),Option.bind_some,f_cloneL (by decide),Option.bind_some]
  have g0:F_cluster_Run_b1 (3,[cS 0 []],[true],[]) (0,[])=some (.inl (1,[cS 0 []])):=by
   simp only [F_cluster_Run_b1]
   rw [if_pos (by simp),if_pos (by simp)]
   have:F_slices_Clone_api_Kept_api_Kept (getD [cS 0 []] (toNat 0) S78.dflt).2.2.2.2.2.2.2.1=some []:=f_cloneK (l:=[]) (by decide)
   rw [this,Option.bind_some,if_pos (apOk_s (by decide) (by decide)),wr (by decide)];rfl
  have g1:F_cluster_Run_b1 (3,[cS 0 []],[true],[]) (1,[cS 0 []])=some (.inr [cS 0 []]):=by
   simp only [F_cluster_Run_b1]
   rw [if_neg (by simp)]
  rw [loopO_go g0,loopO_end g1,Option.bind_some]
  have st:∀(k:Nat) (s s':RuT),k<3→F_cluster_run_step s deT=some s'→F_cluster_Run_b2 [deT,deT,deT] ((k:Int),((s.1.1,(),(),s.1.2.2.2),()),s.1.2.1,s.1.2.2.1,s.2)=some (.inl (((k+1:Nat):Int),((s'.1.1,(),(),s'.1.2.2.2),()),s'.1.2.1,s'.1.2.2.1,s'.2)):=by
   intro k s s' hk h
   simp only [F_cluster_Run_b2]
   have eg:getD [deT,deT,deT] (toNat (k:Int)) S66.dflt=deT:=by
    rcases (show k=0∨k=1∨k=2 by omega) with rfl|rfl|rfl<;>rfl
   have h':F_cluster_run_step ((s.1.1,s.1.2.1,s.1.2.2.1,s.1.2.2.2),s.2) deT=some s':=h
   rw [if_pos (by simp;omega),if_pos (by simp;omega),eg,h',Option.bind_some,wi (by omega)]
  have t0:=st 0 _ _ (by decide) s1
  have t1:=st 1 _ _ (by decide) s2
  have t2:=st 2 _ _ (by decide) s3
  have t3:∀s:RuT,F_cluster_Run_b2 [deT,deT,deT] (((2+1:Nat):Int),((s.1.1,(),(),s.1.2.2.2),()),s.1.2.1,s.1.2.2.1,s.2)=some (.inr (((s.1.1,(),(),s.1.2.2.2),()),s.1.2.1,s.1.2.2.1,s.2)):=by
   intro s
   simp only [F_cluster_Run_b2]
   rw [if_neg (by simp)]
  have:=(loopO_go t0).trans ((loopO_go t1).trans ((loopO_go t2).trans (loopO_end (t3 _))))
  have this:loopO (F_cluster_Run_b2 [deT,deT,deT]) (0,((3,(),(),[]),()),[cS 0 []],[true],[])=_:=this
  rw [this];rfl
 have r':F_cluster_Run (3,[cS 0 []],[true],[]) [(0,0,0,0,0,0,replicate 3 (replicate 2 (0,0,0,0,0,[]))),(0,0,0,0,0,0,replicate 3 (replicate 2 (0,0,0,0,0,[]))),(0,0,0,0,0,0,replicate 3 (replicate 2 (0,0,0,0,0,[])))]=_:=r
 dsimp only
 rw [r']
 rfl
abbrev PlT:=Int×Int×List DeT
def okPl (x:PlT):Prop:=∀d∈x.2.2,okDe d
theorem loop_skip {S τ:Type} {N:Nat} {mk:Nat→S} {body:S→Option (S⊕τ)} {r:τ} (h1:∀i,i<N→body (mk i)=some (.inl (mk (i+1)))) (h2:body (mk N)=some (.inr r)):loopO body (mk 0)=some r:=by
 have:=loop_for (N:=N) (mk:=fun k (_:Unit)=>mk k) (body:=body) (fun _ s=>s) (fun _=>r) (fun _ _=>True) (fun i s hi _=>⟨h1 i hi,trivial⟩) (fun s _=>h2) (s:=()) trivial
 exact this.1
theorem okPl_of {x:PlT} (h:S24.ok x):okPl x∧x.2.2.length≤maxLen:=by
 simp only [Sh.ok] at h
 obtain ⟨_,_,h3,h4⟩:=h
 refine ⟨fun d hd=>?_,h3⟩
 obtain ⟨_,_,_,_,k5,_,k7,k8⟩:=h4 d hd
 refine ⟨by have:=k5.2;exact this,?_⟩
 obtain ⟨d1,d2,d3,d4,d5,d6,f⟩:=d
 simp only at k7 k8
 match f,k7,k8 with
 | [a,b,c],_,k8 =>
  have ha:=(k8 a (by simp)).1
  have hb:=(k8 b (by simp)).1
  have hc:=(k8 c (by simp)).1
  match a,b,c,ha,hb,hc with
  | [a1,a2],[b1,b2],[c1,c2],_,_,_=>exact ⟨a1,a2,b1,b2,c1,c2,rfl⟩
theorem bnd {α β:Type} {o:Option α} {t:α} {f:α→Option β} {y:Option β} (h:o=some t) (k:f t=y):o.bind f=y:=by rw [h];exact k
theorem ip {α:Type} {c:Prop} [Decidable c] {a b y:α} (q:c) (k:a=y):(if c then a else b)=y:=by rw [if_pos q];exact k
theorem im {α:Type} {c:Prop} [Decidable c] {a b y:α} (q:¬c) (k:b=y):(if c then a else b)=y:=by rw [if_neg q];exact k
theorem loop_map {S S2 τ τ2:Type} {b:S→Option (S⊕τ)} {b2:S2→Option (S2⊕τ2)} (g:S→S2) (g':τ→τ2) (h:∀s o,b s=some o→b2 (g s)=some (match o with|.inl s'=>.inl (g s')|.inr r=>.inr (g' r))) {s:S} {r:τ} (hl:loopO b s=some r):loopO b2 (g s)=some (g' r):=by
 obtain ⟨n,hn⟩:=loopO_iff.1 hl
 clear hl
 induction n generalizing s with
 | zero=>simp [iterO] at hn
 | succ n ih =>
  simp only [iterO] at hn
  cases hb:b s with
  | none=>rw [hb] at hn;cases hn
  | some o =>
   rw [hb] at hn
   have:=h s o hb
   cases o with
   | inl s'=>rw [loopO_go this];exact ih hn
   | inr r' =>
    obtain rfl:=inj hn
    exact loopO_end this
def bK (x:KpT):KpT:=(x.1,x.2.1,frZ)
def bC (c:CoT):CoT:=(c.1,c.2.1,c.2.2.1,c.2.2.2.1,c.conf,c.mem,c.cnt,c.kept.map bK,c.2.2.2.2.2.2.2.2)
def bH (h:HaT):HaT:=(h.1,bK h.2.1,h.2.2)
def bP (p:PkT):PkT:=(p.1,p.2.1,p.2.2.1,p.2.2.2.1,p.2.2.2.2.1,p.2.2.2.2.2.1,p.2.2.2.2.2.2.1,p.2.2.2.2.2.2.2.1,p.2.2.2.2.2.2.2.2.1,p.2.2.2.2.2.2.2.2.2.1,frZ,frZ,p.2.2.2.2.2.2.2.2.2.2.2.2.1,p.2.2.2.2.2.2.2.2.2.2.2.2.2.1,frZ)
theorem okKp.b' {x:KpT} (h:okKp x):okKp (bK x):=⟨h.a,h.b,okFr_zero⟩
theorem okCo.b' {i B:Nat} {c:CoT} (h:okCo i B c):okCo i B (bC c) :=
 ⟨h.i8,h.self,h.wait,h.own,h.beat,h.conf,h.mem,h.cnt,fun x hx=>(by obtain ⟨y,hy,rfl⟩:=List.mem_map.1 (show x∈c.kept.map bK from hx);exact (h.kept y hy).b'),by show (c.kept.map bK).length≤B;rw [List.length_map];exact h.klen,h.prom,h.want,h.cut,h.plen,h.peers,h.epoch⟩
theorem keep_b (x:KpT) (l:List KpT):(l.map bK).filter (keepB (bK x))=(l.filter (keepB x)).map bK:=by
 rw [List.filter_map];rfl
theorem b_kTake {l:List KpT} {c m:List Int} {x:KpT} (hl:l.length≤900000) (hc:ok8 c) (hx:0≤x.2.1∧x.2.1≤4294967295) {y:List KpT×List Int×Bool} (h:F_kept_Take l c m x=some y):F_kept_Take (l.map bK) c m (bK x)=some (y.1.map bK,y.2.1,y.2.2):=by
 rw [f_kTake hl hc hx] at h
 rw [f_kTake (x:=bK x) (by rw [List.length_map];exact hl) hc hx]
 have e:tkB c m (bK x)=tkB c m x:=rfl
 rw [e,keep_b]
 by_cases q:tkB c m x=true
 ·rw [if_pos q] at h⊢
  obtain rfl:=inj h
  simp;rfl
 ·rw [if_neg q] at h⊢
  obtain rfl:=inj h
  rfl
theorem getD_b (l:List KpT) (k:Nat):(l.map bK).getD k kpZ=bK (l.getD k kpZ):=by
 rw [List.getD_eq_getElem?_getD,List.getD_eq_getElem?_getD,List.getElem?_map]
 cases l[k]?<;>rfl
theorem b_kGet {l:List KpT} (hl:l.length≤1000000) {i r:Int} {f:FrT} {b:Bool} (h:F_kept_Get l i r=some (f,b)):F_kept_Get (l.map bK) i r=some (frZ,b):=by
 unfold F_kept_Get at h⊢
 have e1:(fun y=>F_kept_Get_1 y i r)=fun y:KpT=>some (y.1==i&&y.2.1==r):=by
  funext y
  unfold F_kept_Get_1
  by_cases q:y.1=i
  ·simp [q]
  ·simp [q]
 rw [e1] at h⊢
 rw [f_idxK hl,Option.bind_some] at h
 rw [f_idxK (by rw [List.length_map];exact hl),Option.bind_some]
 have e2:(fun k=>((l.map bK).getD k kpZ).1==i&&((l.map bK).getD k kpZ).2.1==r)=fun k=>(l.getD k kpZ).1==i&&(l.getD k kpZ).2.1==r:=by
  funext k;rw [getD_b];rfl
 rw [e2,List.length_map]
 cases hf:(List.range l.length).find? (fun k=>(l.getD k kpZ).1==i&&(l.getD k kpZ).2.1==r) with
 | none =>
  rw [hf] at h
  dsimp only at h⊢
  rw [if_pos (by decide)] at h⊢
  simp only [injEq,Prod.mk.injEq] at h
  rw [h.2]
 | some j =>
  rw [hf] at h
  have h2:=List.mem_range.1 (List.mem_of_find?_eq_some hf)
  dsimp only at h⊢
  rw [if_neg (by simp),if_pos (by omega)] at h⊢
  simp only [injEq,Prod.mk.injEq] at h
  rw [← h.2]
  have:getD (l.map bK) (toNat (j:Int)) S44.dflt=bK (l.getD j kpZ):=by rw [Int.toNat_natCast];exact getD_b l j
  rw [this];rfl
theorem b_kPick {l:List KpT} {n:Int} {x:KpT} {b:Bool} (h:F_kept_Pick l n=some (x,b)):F_kept_Pick (l.map bK) n=some (bK x,b):=by
 unfold F_kept_Pick at h⊢
 rw [List.length_map]
 by_cases q:(((length l:Nat):Int)==0)=true
 ·rw [if_pos q] at h⊢
  simp only [injEq,Prod.mk.injEq] at h
  obtain ⟨rfl,rfl⟩:=h
  rfl
 ·rw [if_neg q] at h⊢
  obtain ⟨g1,h⟩:=ifg h
  obtain ⟨g2,h⟩:=ifg h
  rw [if_pos g1,if_pos g2]
  simp only [injEq,Prod.mk.injEq] at h
  obtain ⟨rfl,rfl⟩:=h
  rw [show getD (l.map bK) (toNat (Int.tmod (wrap .u64 n) (wrap .u64 ((length l:Nat):Int)))) S44.dflt=bK (l.getD (toNat (Int.tmod (wrap .u64 n) (wrap .u64 ((length l:Nat):Int)))) kpZ) from getD_b _ _]
theorem b_offL (p:PkT):offL (bP p)=(offL p).map bK:=by
 unfold offL
 by_cases q:p.2.2.2.2.2.2.2.2.2.1>1
 ·rw [if_pos q,if_pos (show (bP p).2.2.2.2.2.2.2.2.2.1>1 from q)];rfl
 ·rw [if_neg q,if_neg (show ¬(bP p).2.2.2.2.2.2.2.2.2.1>1 from q)];rfl
def b3 (s:List KpT×List Int×List KpT):List KpT×List Int×List KpT:=(s.1.map bK,s.2.1,s.2.2.map bK)
theorem b_offStep (m most:List Int) (s:List KpT×List Int×List KpT) (x:KpT):offStep m most (b3 s) (bK x)=b3 (offStep m most s x):=by
 unfold offStep
 have e:tkB (b3 s).2.1 m (bK x)=tkB s.2.1 m x:=rfl
 by_cases q1:x.1≥8∨x.2.1>most.getD x.1.toNat 0
 ·rw [if_pos q1,if_pos (show (bK x).1≥8∨(bK x).2.1>most.getD (bK x).1.toNat 0 from q1)]
 ·rw [if_neg q1,if_neg (show ¬((bK x).1≥8∨(bK x).2.1>most.getD (bK x).1.toNat 0) from q1),e]
  by_cases q2:tkB s.2.1 m x=true
  ·rw [if_pos q2,if_pos q2]
   show ((s.1.map bK).filter (keepB (bK x))++[bK x],_,_)=_
   rw [keep_b]
   simp only [b3,List.map_append,List.map_cons,List.map_nil]
   rfl
  ·rw [if_neg q2,if_neg q2]
theorem b_offFold (m most:List Int):∀(xs:List KpT) (s:List KpT×List Int×List KpT),(xs.map bK).foldl (offStep m most) (b3 s)=b3 (xs.foldl (offStep m most) s)
 | [],s=>rfl
 | x::xs,s=>by rw [List.map_cons,List.foldl_cons,List.foldl_cons,b_offStep,b_offFold m most xs]
theorem b_frames {c:CoT} {l:List HaT} {xs:List KpT} {y:CoT×List HaT} (h:F_core_under_frames (c,l) xs=some y):F_core_under_frames (bC c,l.map bH) (xs.map bK)=some (bC y.1,y.2.map bH):=by
 unfold F_core_under_frames at h⊢
 obtain ⟨r,h1,h⟩:=obd h
 obtain rfl:=inj h
 have:=loop_map (b2:=F_core_under_frames_b1 (xs.map bK)) (fun (s:Int×List HaT)=>(s.1,s.2.map bH)) (fun (r:List HaT)=>r.map bH) (fun s o ho=>?_) h1
 ·have this:loopO (F_core_under_frames_b1 (xs.map bK)) (0,l.map bH)=_:=this
  exact bnd this rfl
 ·unfold F_core_under_frames_b1 at ho⊢
  rw [List.length_map]
  by_cases q:decide (s.1<((length xs:Nat):Int))=true
  ·rw [if_pos q] at ho⊢
   obtain ⟨g1,ho⟩:=ifg ho
   obtain ⟨g2,ho⟩:=ifg ho
   obtain rfl:=inj ho
   rw [if_pos g1,if_pos (by simpa using g2)]
   have:getD (xs.map bK) (toNat s.1) S44.dflt=bK (xs.getD (toNat s.1) kpZ):=getD_b _ _
   rw [this]
   simp only [List.map_append,List.map_cons,List.map_nil]
   rfl
  ·rw [if_neg q] at ho⊢
   obtain rfl:=inj ho
   rfl
theorem b_goOn {c:CoT} {l:List HaT} {y:CoT×List HaT} (h:F_core_under_goOn (c,l)=some y):F_core_under_goOn (bC c,l.map bH)=some (bC y.1,y.2.map bH):=by
 unfold F_core_under_goOn at h⊢
 obtain ⟨t1,h1,h⟩:=obd h
 refine bnd (t:=t1) h1 ?_
 by_cases q1:(!t1)=true
 ·rw [if_pos q1] at h
  obtain rfl:=inj h
  exact ip q1 rfl
 ·rw [if_neg q1] at h
  refine im q1 ?_
  obtain ⟨r1,h2,h⟩:=obd h
  refine bnd (t:=r1) h2 ?_
  obtain ⟨r2,h3,h⟩:=obd h
  have h3':(if r1=true then some (((bC c).1,(bC c).2.1,(bC c).2.2.1,(bC c).2.2.2.1,(bC c).2.2.2.2.1,(bC c).2.2.2.2.2.1,(bC c).2.2.2.2.2.2.1,(bC c).2.2.2.2.2.2.2.1,(bC c).2.2.2.2.2.2.2.2.1,(bC c).2.2.2.2.2.2.2.2.2.1,(bC c).2.2.2.2.2.2.2.2.2.2.1,true,(bC c).2.2.2.2.2.2.2.2.2.2.2.2),()) else some (bC c,()):Option (CoT×Unit))=some (bC r2.1,()):=by
   cases r1 with
   | true =>
    have h3:some _=some r2:=h3
    obtain rfl:=inj h3
    rfl
   | false =>
    have h3:some _=some r2:=h3
    obtain rfl:=inj h3
    rfl
  refine bnd (t:=(bC r2.1,())) h3' ?_
  obtain ⟨r3,h4,h⟩:=obd h
  refine bnd (t:=r3) h4 ?_
  cases r3 with
  | false =>
   have h:some (r2.1,l)=some y:=h
   obtain rfl:=inj h
   rfl
  | true =>
   have h:(F_core_under_install (r2.1,l)).bind (fun t2=>some t2)=some y:=h
   obtain ⟨t2,h5,h⟩:=obd h
   obtain rfl:=inj h
   have:F_core_under_install (bC r2.1,l.map bH)=some (bC t2.1,t2.2.map bH):=by
    unfold F_core_under_install at h5⊢
    obtain ⟨g,h5⟩:=ifg h5
    obtain rfl:=inj h5
    rw [if_pos (by simpa using g)]
    simp only [List.map_append,List.map_cons,List.map_nil]
    rfl
   exact bnd this rfl
theorem b_emit {n i B:Nat} {w0:MW FrT} {in0:Int} {c:CoT} {l:List HaT} (s:St n i B w0 in0 c l) (hB:B≤800000) {f:FrT} {y:Bool×CoT×List HaT} (h:F_core_under_emit (c,l) f=some y):F_core_under_emit (bC c,l.map bH) frZ=some (y.1,bC y.2.1,y.2.2.map bH):=by
 have ok:=s.ok
 unfold F_core_under_emit at h⊢
 obtain ⟨r1,h1,h⟩:=obd h
 refine bnd (t:=r1) h1 ?_
 cases r1 with
 | true =>
  have h:some (false,c,l)=some y:=h
  obtain rfl:=inj h
  rfl
 | false =>
  have h:=h
  rw [if_neg (by decide)] at h
  refine im (by decide) ?_
  obtain ⟨g,h⟩:=ifg h
  refine ip g ?_
  obtain ⟨t1,h2,h⟩:=obd h
  have hU:0≤wrap .u32 (getD c.2.2.2.2.2.2.1 (toNat c.1) 0+1)∧wrap .u32 (getD c.2.2.2.2.2.2.1 (toNat c.1) 0+1)≤4294967295:=by
   rw [IntKind.wrap_u32'];omega
  have h2':=b_kTake (by have:=ok.klen;show c.kept.length≤_;omega) ok.cnt hU h2
  refine bnd h2' ?_
  by_cases q:t1.2.2=true
  ·rw [if_pos q] at h
   refine ip q ?_
   obtain ⟨t2,h3,h⟩:=obd h
   obtain rfl:=inj h
   exact bnd (b_frames h3) rfl
  ·rw [if_neg q] at h
   refine im q ?_
   obtain rfl:=inj h
   rfl
theorem b_Tick {n i B:Nat} {w0:MW FrT} {c:CoT} (hI:InvM n w0) (hi:i<n) (hc:w0.c i=mc c) (ok:okCo i B c) (hB:B+9≤800000) {f:FrT} {y:CoT×Bool×List HaT} (h:F_core_Tick c f=some y):F_core_Tick (bC c) frZ=some (bC y.1,y.2.1,y.2.2.map bH):=by
 unfold F_core_Tick at h⊢
 have hk:=ok.klen
 have hk':=ok.b'.klen
 rw [f_begun (by omega),Option.bind_some,f_fits ok,Option.bind_some,if_neg (by decide)] at h
 rw [f_begun (by omega),Option.bind_some,f_fits ok.b',Option.bind_some,if_neg (by decide)]
 obtain ⟨b',eb,hb⟩:=f_bTick ok.beat
 have eb':F_beat_Tick c.2.2.2.1=some b':=eb
 have s0:=St.begin hI hi hc (okCo_mono ok (show B≤B+9 by omega))
 have s1:=s0.beat hb
 have hs:c.1=(i:Int):=ok.self
 have h8:=ok.i8
 dsimp only at h
 rw [eb',Option.bind_some] at h
 refine bnd (t:=b') eb' ?_
 have ho:=ok.own
 obtain ⟨r,er,r8,hr⟩:=f_Reach hb (s:=c.1) (o:=c.own) (wt:=wrap .u32 c.2.1) (by rw [hs];omega) (by omega)
 have er':F_beat_Reach b' c.1 c.2.2.1 (wrap .u32 c.2.1)=some r:=er
 rw [er',Option.bind_some] at h
 refine bnd (t:=r) er' ?_
 rw [hs,Int.toNat_natCast] at hr
 obtain ⟨z,ez⟩:=f_unsettled s1.ok [] r
 rw [ez,Option.bind_some] at h
 refine bnd (t:=z) ez ?_
 have key:∃c2:CoT,(if z=true then (F_gather_Propose (c.1,c.2.1,c.2.2.1,b',c.2.2.2.2) r).bind fun t8=>(if t8.2=true then (F_core_under_promise ((c.1,c.2.1,c.2.2.1,b',c.2.2.2.2.1,c.2.2.2.2.2.1,c.2.2.2.2.2.2.1,c.2.2.2.2.2.2.2.1,c.2.2.2.2.2.2.2.2.1,c.2.2.2.2.2.2.2.2.2.1,c.2.2.2.2.2.2.2.2.2.2.1,c.2.2.2.2.2.2.2.2.2.2.2.1,c.2.2.2.2.2.2.2.2.2.2.2.2.1,t8.1.1),[]) t8.1 r).bind fun t9=>(some ((t9.1,()),t9.2)) else some (((c.1,c.2.1,c.2.2.1,b',c.2.2.2.2),()),[])) else some (((c.1,c.2.1,c.2.2.1,b',c.2.2.2.2),()),[]):Option ((CoT×Unit)×List HaT))=some ((c2,()),[])∧St n i (B+9) w0 (rk c.conf) c2 [] ∧
   (if z=true then (F_gather_Propose ((bC c).1,(bC c).2.1,(bC c).2.2.1,b',(bC c).2.2.2.2) r).bind fun t8=>(if t8.2=true then (F_core_under_promise (((bC c).1,(bC c).2.1,(bC c).2.2.1,b',(bC c).2.2.2.2.1,(bC c).2.2.2.2.2.1,(bC c).2.2.2.2.2.2.1,(bC c).2.2.2.2.2.2.2.1,(bC c).2.2.2.2.2.2.2.2.1,(bC c).2.2.2.2.2.2.2.2.2.1,(bC c).2.2.2.2.2.2.2.2.2.2.1,(bC c).2.2.2.2.2.2.2.2.2.2.2.1,(bC c).2.2.2.2.2.2.2.2.2.2.2.2.1,t8.1.1),[]) t8.1 r).bind fun t9=>(some ((t9.1,()),t9.2)) else some ((((bC c).1,(bC c).2.1,(bC c).2.2.1,b',(bC c).2.2.2.2),()),[])) else some ((((bC c).1,(bC c).2.1,(bC c).2.2.1,b',(bC c).2.2.2.2),()),[]):Option ((CoT×Unit)×List HaT))=some ((bC c2,()),[]):=by
  cases z with
  | false=>exact ⟨_,rfl,s1,rfl⟩
  | true =>
   obtain ⟨d,bd,ed,hd⟩:=f_Propose s1.ok r
   have ed':F_gather_Propose ((bC c).1,(bC c).2.1,(bC c).2.2.1,b',(bC c).2.2.2.2) r=some (d,bd):=ed
   rw [if_pos rfl,if_pos rfl,ed,ed',Option.bind_some,Option.bind_some]
   cases bd with
   | false=>exact ⟨_,rfl,s1,rfl⟩
   | true =>
    obtain ⟨h1,h2⟩:=hd rfl
    rw [if_pos rfl,if_pos rfl,h2]
    exact ⟨_,rfl,s1.propose r8 hr h1,rfl⟩
 obtain ⟨c2,e2,s2,e2'⟩:=key
 rw [e2,Option.bind_some] at h
 refine bnd e2' ?_
 obtain ⟨c3,l3,e3,s3,hl3,hk3⟩:=f_goOn s2 (by omega) (by simp)
 rw [e3,Option.bind_some] at h
 have e3':=b_goOn e3
 refine bnd (t:=(bC c3,l3.map bH)) e3' ?_
 obtain ⟨t7,e4,h⟩:=obd h
 refine bnd (b_emit s3 (by omega) e4) ?_
 obtain rfl:=inj h
 rfl
theorem b_Receive {n i B:Nat} {w0:MW FrT} {c:CoT} (hI:InvM n w0) (hi:i<n) (hc:w0.c i=mc c) (ok:okCo i B c) (hB:B+9≤700000) {p:PkT} (hp:okPk p) (hpk:w0.pk (mpk p)) {y:CoT×Bool×List HaT} (h:F_core_Receive c p=some y):F_core_Receive (bC c) (bP p)=some (bC y.1,y.2.1,y.2.2.map bH):=by
 unfold F_core_Receive at h⊢
 have hk:=ok.klen
 have hk':=ok.b'.klen
 have ha:=hp.a
 have hinc:=hp.inc
 have hs:c.1=(i:Int):=ok.self
 have h8:=ok.i8
 have s0:=St.begin hI hi hc (okCo_mono ok (show B≤B+9 by omega))
 rw [f_begun (by omega),Option.bind_some] at h
 rw [f_begun (by omega),Option.bind_some]
 dsimp only at h
 obtain ⟨t2,h2,h⟩:=obd h
 refine bnd (t:=t2) h2 ?_
 obtain ⟨r1,h3,h⟩:=obd h
 rw [f_fits ok,Option.bind_some,if_neg (by decide)] at h3
 have h3':(show Option Bool from (F_core_fits (bC c)).bind fun t10=>(if (!t10)=true then some true else if ((wrap .i64 (bP p).1)==(bC c).1)=true then some true else some (!t2.2)))=some r1:=by
  rw [f_fits ok.b',Option.bind_some,if_neg (by decide)]
  exact h3
 refine bnd h3' ?_
 cases r1 with
 | true =>
  have h:some (c,false,[])=some y:=h
  obtain rfl:=inj h
  rfl
 | false =>
  rw [if_neg (by decide)] at h
  refine im (by decide) ?_
  obtain ⟨g,h⟩:=ifg h
  refine ip g ?_
  have hk8:p.1.toNat<8:=by omega
  obtain ⟨t3,h4,h⟩:=obd h
  refine bnd (t:=t3) h4 ?_
  obtain ⟨g2,h⟩:=ifg h
  refine ip g2 ?_
  obtain ⟨y3,ey,hy,hu⟩:=f_Update (okPe_get ok hk8) hp
  have e3:t3=y3:=by
   have ey':F_gather_Update (getD c.2.2.2.2.2.2.2.2.2.2.2.2.1 (toNat p.1) S75.dflt) p=some y3:=ey
   rw [h4] at ey'
   exact inj ey'
  subst e3
  obtain ⟨b',bo,eb,hb,hbo⟩:=f_Hear ok.beat (i:=wrap .i64 p.1) (inc:=p.2.1) (by rw [wr (by omega)];omega) hinc
  have e2:t2=(b',bo):=by
   have eb':F_beat_Hear c.2.2.2.1 (wrap .i64 p.1) p.2.1=some (b',bo):=eb
   rw [h2] at eb'
   exact inj eb'
  subst e2
  have ho:=ok.own
  have hep:=ok.epoch
  have hep2:=hp.epoch
  have hep3:=hp.prom.ok.a
  unfold U at hep hep2
  have s1:=(s0.beat hb).peer hp hpk hy hu
  have s2:=s1.epoch (e:=mx (mx c.epoch p.2.2.2.2.2.2.2.2.1) p.2.2.2.2.2.1.1) (by rw [mxe,mxe];unfold U;omega) (by rw [mxe,mxe];show c.epoch≤_;omega)
  obtain ⟨ba,ea,hba⟩:=f_Adopt ok.prom.ok (i:=c.1) (o:=c.own) hp
  have ea':F_gather_Adopt c.2.2.2.2.2.2.2.2.1 c.1 c.2.2.1 p=some ba:=ea
  rw [ea',Option.bind_some] at h
  refine bnd (t:=ba) ea' ?_
  have key:∃c2:CoT,(if ba=true then (F_core_under_promise ((c.1,c.2.1,c.2.2.1,b',c.2.2.2.2.1,c.2.2.2.2.2.1,c.2.2.2.2.2.2.1,c.2.2.2.2.2.2.2.1,c.2.2.2.2.2.2.2.2.1,c.2.2.2.2.2.2.2.2.2.1,c.2.2.2.2.2.2.2.2.2.2.1,c.2.2.2.2.2.2.2.2.2.2.2.1,List.set c.2.2.2.2.2.2.2.2.2.2.2.2.1 (toNat p.1) t3,mx (mx c.2.2.2.2.2.2.2.2.2.2.2.2.2 p.2.2.2.2.2.2.2.2.1) p.2.2.2.2.2.1.1),[]) p.2.2.2.2.2.1 p.2.2.2.2.2.2.1).bind fun t9=>(some ((t9.1,()),t9.2))
    else some (((c.1,c.2.1,c.2.2.1,b',c.2.2.2.2.1,c.2.2.2.2.2.1,c.2.2.2.2.2.2.1,c.2.2.2.2.2.2.2.1,c.2.2.2.2.2.2.2.2.1,c.2.2.2.2.2.2.2.2.2.1,c.2.2.2.2.2.2.2.2.2.2.1,c.2.2.2.2.2.2.2.2.2.2.2.1,List.set c.2.2.2.2.2.2.2.2.2.2.2.2.1 (toNat p.1) t3,mx (mx c.2.2.2.2.2.2.2.2.2.2.2.2.2 p.2.2.2.2.2.2.2.2.1) p.2.2.2.2.2.1.1),()),[]):Option ((CoT×Unit)×List HaT))=some ((c2,()),[])∧St n i (B+9) w0 (rk c.conf) c2 []∧c2.kept=c.kept ∧
    (if ba=true then (F_core_under_promise (((bC c).1,(bC c).2.1,(bC c).2.2.1,b',(bC c).2.2.2.2.1,(bC c).2.2.2.2.2.1,(bC c).2.2.2.2.2.2.1,(bC c).2.2.2.2.2.2.2.1,(bC c).2.2.2.2.2.2.2.2.1,(bC c).2.2.2.2.2.2.2.2.2.1,(bC c).2.2.2.2.2.2.2.2.2.2.1,(bC c).2.2.2.2.2.2.2.2.2.2.2.1,List.set (bC c).2.2.2.2.2.2.2.2.2.2.2.2.1 (toNat (bP p).1) t3,mx (mx (bC c).2.2.2.2.2.2.2.2.2.2.2.2.2 (bP p).2.2.2.2.2.2.2.2.1) (bP p).2.2.2.2.2.1.1),[]) (bP p).2.2.2.2.2.1 (bP p).2.2.2.2.2.2.1).bind fun t9=>(some ((t9.1,()),t9.2))
    else some ((((bC c).1,(bC c).2.1,(bC c).2.2.1,b',(bC c).2.2.2.2.1,(bC c).2.2.2.2.2.1,(bC c).2.2.2.2.2.2.1,(bC c).2.2.2.2.2.2.2.1,(bC c).2.2.2.2.2.2.2.2.1,(bC c).2.2.2.2.2.2.2.2.2.1,(bC c).2.2.2.2.2.2.2.2.2.2.1,(bC c).2.2.2.2.2.2.2.2.2.2.2.1,List.set (bC c).2.2.2.2.2.2.2.2.2.2.2.2.1 (toNat (bP p).1) t3,mx (mx (bC c).2.2.2.2.2.2.2.2.2.2.2.2.2 (bP p).2.2.2.2.2.2.2.2.1) (bP p).2.2.2.2.2.1.1),()),[]):Option ((CoT×Unit)×List HaT))=some ((bC c2,()),[]):=by
   cases ba with
   | false=>exact ⟨_,rfl,s2,rfl,rfl⟩
   | true =>
    obtain ⟨h1,h2⟩:=hba rfl
    rw [if_pos rfl]
    rw [hs,Int.toNat_natCast] at h2
    exact ⟨_,rfl,s2.adopt hp hpk h1 h2 (by show p.2.2.2.2.2.1.1≤mx (mx c.epoch p.2.2.2.2.2.2.2.2.1) p.2.2.2.2.2.1.1;rw [mxe,mxe];omega),rfl,rfl⟩
  obtain ⟨c2,e2,s3,ek2,e2'⟩:=key
  rw [e2,Option.bind_some] at h
  refine bnd e2' ?_
  dsimp only at h
  have ok2:=s3.ok
  obtain ⟨most,bm,em,m8,hm⟩:=f_bounds ok2 []
  rw [em,Option.bind_some] at h
  refine bnd (t:=(most,bm)) em ?_
  obtain ⟨z3,h5,h⟩:=obd h
  refine bnd (t:=z3) h5 ?_
  have hkl:c2.kept.length≤B:=by rw [ek2];exact hk
  obtain ⟨r4,h6,h⟩:=obd h
  have key4:∃c4:CoT,∃l4:List HaT,r4=((c4,()),l4)∧(if z3=true then (F_kept_Offer (bC c2).2.2.2.2.2.2.2.1 (bC c2).2.2.2.2.2.2.1 (bC c2).2.2.2.2.2.1 (bP p) most).bind fun t7=>((F_core_under_frames (((bC c2).1,(bC c2).2.1,(bC c2).2.2.1,(bC c2).2.2.2.1,(bC c2).2.2.2.2.1,(bC c2).2.2.2.2.2.1,t7.2.1,t7.1,(bC c2).2.2.2.2.2.2.2.2),[]) t7.2.2).bind fun t8=>(some ((t8.1,()),t8.2))) else some ((bC c2,()),[]):Option ((CoT×Unit)×List HaT))=some ((bC c4,()),l4.map bH):=by
   cases z3 with
   | false =>
    have h6:some ((c2,()),[])=some r4:=h6
    obtain rfl:=inj h6
    exact ⟨c2,[],rfl,rfl⟩
   | true =>
    have hro:=hp.rof
    have eO:=f_Offer (l:=c2.kept) (c:=c2.cnt) (m:=c2.mem) (most:=most) (p:=p) (by omega) ok2.cnt m8 (by omega) hp.round (by omega) hp.rr
    have eO':F_kept_Offer c2.2.2.2.2.2.2.2.1 c2.2.2.2.2.2.2.1 c2.2.2.2.2.2.1 p most=_:=eO
    have eB:=f_Offer (l:=c2.kept.map bK) (c:=c2.cnt) (m:=c2.mem) (most:=most) (p:=bP p) (by rw [List.length_map];omega) ok2.cnt m8 (by show 0≤p.1∧p.1≤4294967295;omega) hp.round (by show 0≤p.2.2.2.2.2.2.2.2.2.2.2.2.1∧p.2.2.2.2.2.2.2.2.2.2.2.2.1≤4294967295;omega) hp.rr
    rw [b_offL,show ((c2.kept.map bK,c2.cnt,[]):List KpT×List Int×List KpT)=b3 (c2.kept,c2.cnt,[]) from rfl,b_offFold] at eB
    have h6:(F_kept_Offer c2.2.2.2.2.2.2.2.1 c2.2.2.2.2.2.2.1 c2.2.2.2.2.2.1 p most).bind _=some r4:=h6
    rw [eO',Option.bind_some] at h6
    obtain ⟨t8,h7,h6⟩:=obd h6
    obtain rfl:=inj h6
    refine ⟨t8.1,t8.2,rfl,?_⟩
    refine ip rfl ?_
    refine bnd (t:=b3 (List.foldl (offStep c2.mem most) (c2.kept,c2.cnt,[]) (offL p))) eB ?_
    exact bnd (b_frames h7) rfl
  obtain ⟨c4,l4,e4,e4'⟩:=key4
  subst e4
  refine bnd e4' ?_
  obtain ⟨t6,h7,h⟩:=obd h
  refine bnd (b_goOn h7) ?_
  obtain rfl:=inj h
  rfl
theorem b_Packet {i B:Nat} {c:CoT} (ok:okCo i B c) (hB:B≤800000) {p:PkT} (h:F_core_Packet c=some p):F_core_Packet (bC c)=some (bP p):=by
 unfold F_core_Packet at h⊢
 have hk:=ok.klen
 have hl:c.kept.length≤1000000:=by omega
 rw [f_fits ok,Option.bind_some,if_neg (by decide)] at h
 rw [f_fits ok.b',Option.bind_some,if_neg (by decide)]
 obtain ⟨g,h⟩:=ifg h
 refine ip g ?_
 obtain ⟨⟨f2,b2⟩,h2,h⟩:=obd h
 refine bnd (b_kGet hl h2) ?_
 obtain ⟨r1,h3,h⟩:=obd h
 have h3':(if (decide ((getD (bC c).2.2.2.2.2.2.1 (toNat (bC c).1) 0)>0))=true then (F_kept_Get (bC c).2.2.2.2.2.2.2.1 (bC c).1 (wrap .u32 ((getD (bC c).2.2.2.2.2.2.1 (toNat (bC c).1) 0)-1))).bind fun t5=>(some (wrap .u32 (bC c).1,(bC c).2.2.1,(bC c).2.2.2.2.1,(bC c).2.2.2.2.2.1,(bC c).2.2.2.2.2.2.1,(bC c).2.2.2.2.2.2.2.2.1,(bC c).2.2.2.2.2.2.2.2.2.1,(bC c).2.2.2.2.2.2.2.2.2.2.2.1,(bC c).2.2.2.2.2.2.2.2.2.2.2.2.2,getD (bC c).2.2.2.2.2.2.1 (toNat (bC c).1) 0,frZ,t5.1,0,0,frZ)) else some (wrap .u32 (bC c).1,(bC c).2.2.1,(bC c).2.2.2.2.1,(bC c).2.2.2.2.2.1,(bC c).2.2.2.2.2.2.1,(bC c).2.2.2.2.2.2.2.2.1,(bC c).2.2.2.2.2.2.2.2.2.1,(bC c).2.2.2.2.2.2.2.2.2.2.2.1,(bC c).2.2.2.2.2.2.2.2.2.2.2.2.2,getD (bC c).2.2.2.2.2.2.1 (toNat (bC c).1) 0,frZ,frZ,0,0,frZ):Option PkT)=some (bP r1):=by
  by_cases q:decide ((getD c.2.2.2.2.2.2.1 (toNat c.1) 0)>0)=true
  ·rw [if_pos q] at h3
   refine ip q ?_
   obtain ⟨⟨f5,b5⟩,h5,h3⟩:=obd h3
   obtain rfl:=inj h3
   exact bnd (b_kGet hl h5) rfl
  ·rw [if_neg q] at h3
   obtain rfl:=inj h3
   exact im q rfl
 refine bnd (t:=bP r1) h3' ?_
 obtain ⟨t3,h4,h⟩:=obd h
 refine bnd (t:=t3) h4 ?_
 obtain ⟨r2,h5,h⟩:=obd h
 have h5':(if t3=true then some ((bP r1).1,(bP r1).2.1,(bP r1).2.2.1,(bP r1).2.2.2.1,(bC c).2.2.2.2.2.2.2.2.2.2.1,(bP r1).2.2.2.2.2) else some (bP r1):Option PkT)=some (bP r2):=by
  cases t3 with
  | true =>
   have h5:some _=some r2:=h5
   obtain rfl:=inj h5
   rfl
  | false =>
   have h5:some r1=some r2:=h5
   obtain rfl:=inj h5
   rfl
 refine bnd (t:=bP r2) h5' ?_
 obtain ⟨⟨x4,b4⟩,h6,h⟩:=obd h
 refine bnd (b_kPick h6) ?_
 cases b4 with
 | true =>
  have h:some _=some p:=h
  obtain rfl:=inj h
  rfl
 | false =>
  have h:some r2=some p:=h
  obtain rfl:=inj h
  rfl
theorem loop_rel2 {S1 S2 σ1 σ2 τ1 τ2:Type} {N:Nat} {mk1:Nat→σ1→S1} {mk2:Nat→σ2→S2} {b1:S1→Option (S1⊕τ1)} {b2:S2→Option (S2⊕τ2)} (I:Nat→σ1→σ2→Prop) (Q:τ1→τ2→Prop)
  (h1:∀i s t,i<N→I i s t→∃s' t',b1 (mk1 i s)=some (.inl (mk1 (i+1) s'))∧b2 (mk2 i t)=some (.inl (mk2 (i+1) t'))∧I (i+1) s' t')
  (h2:∀s t,I N s t→∃r q,b1 (mk1 N s)=some (.inr r)∧b2 (mk2 N t)=some (.inr q)∧Q r q) {s:σ1} {t:σ2} (h0:I 0 s t):∃r q,loopO b1 (mk1 0 s)=some r∧loopO b2 (mk2 0 t)=some q∧Q r q:=by
 have key:∀k,k≤N→∃s' t',loopO b1 (mk1 0 s)=loopO b1 (mk1 k s')∧loopO b2 (mk2 0 t)=loopO b2 (mk2 k t')∧I k s' t':=by
  intro k
  induction k with
  | zero=>intro _;exact ⟨s,t,rfl,rfl,h0⟩
  | succ k ih =>
   intro hk
   obtain ⟨s',t',e,e',i⟩:=ih (by omega)
   obtain ⟨s2,t2,e2,e2',i2⟩:=h1 k s' t' (by omega) i
   exact ⟨s2,t2,e.trans (loopO_go e2),e'.trans (loopO_go e2'),i2⟩
 obtain ⟨s',t',e,e',i⟩:=key N (Nat.le_refl _)
 obtain ⟨r,q,e2,e2',h⟩:=h2 s' t' i
 exact ⟨r,q,e.trans (loopO_end e2),e'.trans (loopO_end e2'),h⟩
structure LeR (x y:LeT):Prop where
 a:x.1=y.1
 b:x.2.1=y.2.1
 c:x.2.2.2=y.2.2.2
 d:x.2.2.2=false→∃p q:PkT,okPk p∧okPk q∧x.2.2.1=pkS p∧y.2.2.1=pkS q∧bP p=bP q
structure LsR (l m:List LeT):Prop where
 len:l.length=m.length
 at_:∀i,i<l.length→LeR (l.getD i leZ) (m.getD i leZ)
theorem LsR.fst {l m:List LeT} (h:LsR l m) (i:Nat):(l.getD i leZ).1=(m.getD i leZ).1∧(l.getD i leZ).2.1=(m.getD i leZ).2.1:=by
 by_cases q:i<l.length
 ·exact ⟨(h.at_ i q).a,(h.at_ i q).b⟩
 ·have h1:l.getD i leZ=leZ:=by rw [List.getD_eq_getElem?_getD,List.getElem?_eq_none (by omega)];rfl
  have h2:m.getD i leZ=leZ:=by rw [List.getD_eq_getElem?_getD,List.getElem?_eq_none (by have:=h.len;omega)];rfl
  rw [h1,h2];exact ⟨rfl,rfl⟩
theorem r_places {l m:List LeT} (h:LsR l m) (i k:Int):F_lossy_places l i k=F_lossy_places m i k:=by
 have e:F_lossy_places_b1 l i k=F_lossy_places_b1 m i k:=by
  funext s
  unfold F_lossy_places_b1
  have h1:(getD l (toNat s.1) S93.dflt).1=(getD m (toNat s.1) S93.dflt).1:=(h.fst _).1
  have h2:(getD l (toNat s.1) S93.dflt).2.1=(getD m (toNat s.1) S93.dflt).2.1:=(h.fst _).2
  rw [h1,h2,h.len]
 unfold F_lossy_places
 rw [e]
theorem r_Find {l m:List LeT} (h:LsR l m) (i k x:Int):F_lossy_Find l i k x=F_lossy_Find m i k x:=by
 unfold F_lossy_Find
 rw [r_places h]
theorem f_PutX {l:List LeT} {x:LeT} (h:l.length≤4096):F_lossy_Put l [x]=some (if l.length<4096 then l++[x] else l):=by
 unfold F_lossy_Put
 rw [wr (by omega),mne,mxe]
 have e:min (([x].length:Nat):Int) (max 0 (4096-(l.length:Int)))=((if l.length<4096 then 1 else 0:Nat):Int):=by
  simp only [List.length_cons,List.length_nil]
  split<;>omega
 rw [e,Int.toNat_natCast]
 have e2:(if l.length<4096 then 1 else 0:Nat)≤[x].length:=by simp only [List.length_cons,List.length_nil];split<;>omega
 rw [if_pos ⟨by omega,by omega,e2⟩,List.drop_zero,f_concat (by omega) (by rw [List.length_take];simp;omega)]
 by_cases q:l.length<4096
 ·rw [if_pos q,if_pos q];rfl
 ·rw [if_neg q,if_neg q];simp
theorem getD_snoc (l:List LeT) (x:LeT) (i:Nat):(l++[x]).getD i leZ=if i<l.length then l.getD i leZ else if i=l.length then x else leZ:=by
 rw [List.getD_eq_getElem?_getD,List.getElem?_append]
 by_cases q:i<l.length
 ·rw [if_pos q,if_pos q,List.getD_eq_getElem?_getD]
 ·rw [if_neg q,if_neg q]
  by_cases e:i=l.length
  ·rw [if_pos e,e];simp
  ·rw [if_neg e,List.getElem?_eq_none (by simp;omega)];rfl
theorem LsR.put {l m:List LeT} (h:LsR l m) {x y:LeT} (hxy:LeR x y):LsR (if l.length<4096 then l++[x] else l) (if m.length<4096 then m++[y] else m):=by
 have hl:=h.len
 rw [← hl]
 by_cases q:l.length<4096
 ·rw [if_pos q,if_pos q]
  refine ⟨by simp [hl],fun i hi=>?_⟩
  rw [getD_snoc,getD_snoc,← hl]
  by_cases q2:i<l.length
  ·rw [if_pos q2,if_pos q2];exact h.at_ i q2
  ·have e:i=l.length:=by simp at hi;omega
   rw [if_neg q2,if_neg q2,if_pos e,if_pos e];exact hxy
 ·rw [if_neg q,if_neg q];exact h
theorem getD_del (l:List LeT) {z:Nat} (hz:z<l.length) (i:Nat):(l.take z++l.drop (z+1)).getD i leZ=if i<z then l.getD i leZ else l.getD (i+1) leZ:=by
 rw [List.getD_eq_getElem?_getD,List.getElem?_append,List.length_take,Nat.min_eq_left (by omega)]
 by_cases q:i<z
 ·rw [if_pos q,if_pos q,List.getElem?_take_of_lt q,List.getD_eq_getElem?_getD]
 ·rw [if_neg q,if_neg q,List.getElem?_drop,List.getD_eq_getElem?_getD]
  congr 2
  omega
theorem r_Take {l m:List LeT} (h:LsR l m) (hl:l.length≤4096) (i k x:Int) {l' m':List LeT} {u v:LeT} {b c:Bool} (h1:F_lossy_Take l i k x=some (l',u,b)) (h2:F_lossy_Take m i k x=some (m',v,c)) :
  b=c∧(b=true→LsR l' m'∧LeR u v∧u∈l∧v∈m∧(∀y∈l',y∈l)∧(∀y∈m',y∈m)):=by
 have hlen:=h.len
 unfold F_lossy_Take at h1 h2
 obtain ⟨z,d,e,hz⟩:=f_Find (l:=l) (by omega) i k x
 have e':=e
 rw [r_Find h] at e'
 rw [f_cloneL (by omega),Option.bind_some,e,Option.bind_some] at h1
 rw [f_cloneL (by omega),Option.bind_some,e',Option.bind_some] at h2
 cases d with
 | false =>
  have h1:some (l,((0,0,[],false):LeT),false)=some (l',u,b):=h1
  have h2:some (m,((0,0,[],false):LeT),false)=some (m',v,c):=h2
  simp only [injEq,Prod.mk.injEq] at h1 h2
  refine ⟨by rw [← h1.2.2,← h2.2.2],fun q=>?_⟩
  rw [← h1.2.2] at q;cases q
 | true =>
  have hz:=hz rfl
  rw [if_neg (by simp),wi (by omega),f_Delete hz (by omega),Option.bind_some,if_pos (by omega)] at h1
  rw [if_neg (by simp),wi (by omega),f_Delete (l:=m) (by omega) (by omega),Option.bind_some,if_pos (by omega)] at h2
  simp only [injEq,Prod.mk.injEq] at h1 h2
  obtain ⟨a1,a2,a3⟩:=h1
  obtain ⟨b1,b2,b3⟩:=h2
  refine ⟨by rw [← a3,← b3],fun _=>⟨⟨?_,fun j hj=>?_⟩,?_,?_,?_,fun y hy=>?_,fun y hy=>?_⟩⟩
  ·rw [← a1,← b1]
   simp only [List.length_append,List.length_take,List.length_drop];omega
  ·rw [← a1] at hj
   simp only [List.length_append,List.length_take,List.length_drop] at hj
   rw [← a1,← b1,getD_del l hz,getD_del m (by omega)]
   split
   ·exact h.at_ j (by omega)
   ·exact h.at_ (j+1) (by omega)
  ·have q1:getD l (toNat (z:Int)) S93.dflt=l.getD z leZ:=by rw [Int.toNat_natCast]
   have q2:getD m (toNat (z:Int)) S93.dflt=m.getD z leZ:=by rw [Int.toNat_natCast]
   rw [← a2,← b2,q1,q2];exact h.at_ z hz
  ·have q1:getD l (toNat (z:Int)) S93.dflt=l[z]:=by rw [Int.toNat_natCast];exact getD_lt (d:=leZ) hz
   rw [← a2,q1];exact List.getElem_mem hz
  ·have hz2:z<m.length:=by omega
   have q1:getD m (toNat (z:Int)) S93.dflt=m[z]:=by rw [Int.toNat_natCast];exact getD_lt (d:=leZ) hz2
   rw [← b2,q1];exact List.getElem_mem hz2
  ·rw [← a1,List.mem_append] at hy
   rcases hy with hy|hy
   ·exact List.mem_of_mem_take hy
   ·exact List.mem_of_mem_drop hy
  ·rw [← b1,List.mem_append] at hy
   rcases hy with hy|hy
   ·exact List.mem_of_mem_take hy
   ·exact List.mem_of_mem_drop hy
def tm8 (m:Int) (j:Nat):Int:=wrap .u8 (Int.fdiv m (2^min (toNat (wrap .i64 ((8:Int)*(j:Int)))) 32))
def tnF (n:Nat) (m:Int) (j:Nat) (s:List Int):List Int:=s.set (n+j) (bits .xor .u8 (s.getD (n+j) 0) (tm8 m j))
theorem getD_setI {m:List Int} {k:Nat} {x:Int} (hk:k<m.length) (j:Nat):(m.set k x).getD j 0=if j=k then x else m.getD j 0:=getD_set hk j
theorem tn_get (n:Nat) (m:Int) (s:List Int):∀N,n+N≤s.length→(forN (tnF n m) N s).length=s.length∧∀j,(forN (tnF n m) N s).getD j 0=if n≤j∧j<n+N then bits .xor .u8 (s.getD j 0) (tm8 m (j-n)) else s.getD j 0
 | 0,_=>⟨rfl,fun j=>by rw [if_neg (by omega)];rfl⟩
 | N+1,h=>by
  obtain ⟨h1,h2⟩:=tn_get n m s N (by omega)
  have e0:forN (tnF n m) (N+1) s=(forN (tnF n m) N s).set (n+N) (bits .xor .u8 ((forN (tnF n m) N s).getD (n+N) 0) (tm8 m N)):=rfl
  rw [e0]
  generalize forN (tnF n m) N s=R at h1 h2⊢
  refine ⟨by rw [List.length_set];exact h1,fun j=>?_⟩
  rw [getD_setI (by rw [h1];omega)]
  have hN:=h2 (n+N)
  rw [if_neg (by omega)] at hN
  by_cases e:j=n+N
  ·rw [if_pos e,if_pos (by omega),e,hN,Nat.add_sub_cancel_left]
  ·rw [if_neg e,h2 j]
   by_cases q:n≤j∧j<n+N
   ·rw [if_pos q,if_pos (by omega)]
   ·rw [if_neg q,if_neg (by omega)]
theorem tm8_rg (m:Int) (j:Nat):0≤tm8 m j∧tm8 m j<256:=by
 unfold tm8
 rw [IntKind.wrap_u8']
 omega
theorem byI_getD {x:Str} {j:Nat} (h:j<x.length):(byI x).getD j 0=((x[j].toNat:Nat):Int):=by
 rw [List.getD_eq_getElem?_getD]
 unfold byI
 rw [List.getElem?_map,List.getElem?_eq_getElem h];rfl
theorem tn_same (n:Nat) (m:Int) (x:Str) {N:Nat} (h:n+N≤x.length):iBy (forN (tnF n m) N (byI x))=x↔∀j,j<N→tm8 m j=0:=by
 have hl:(byI x).length=x.length:=by simp [byI]
 obtain ⟨h1,h2⟩:=tn_get n m (byI x) N (by omega)
 constructor
 ·intro e j hj
  have hjl:n+j<x.length:=by omega
  have h3:=h2 (n+j)
  rw [if_pos (by omega),Nat.add_sub_cancel_left,byI_getD hjl] at h3
  have h4:(iBy (forN (tnF n m) N (byI x)))[n+j]?=some x[n+j]:=by rw [e,List.getElem?_eq_getElem hjl]
  unfold iBy at h4
  have hlen2:n+j<(forN (tnF n m) N (byI x)).length:=by rw [h1,hl];exact hjl
  rw [List.getElem?_map,List.getElem?_eq_getElem hlen2] at h4
  rw [getD_lt hlen2] at h3
  simp only [Option.map_some,injEq] at h4
  rw [h3] at h4
  obtain ⟨t1,t2⟩:=tm8_rg m j
  have hb:=x[n+j].toNat_lt
  obtain ⟨t,et⟩:∃t:Nat,tm8 m j=(t:Int):=⟨(tm8 m j).toNat,by omega⟩
  rw [et] at h4 t2⊢
  rw [u8_xor_nat _ _ (by omega) (by omega),Int.toNat_natCast] at h4
  have h5:=congrArg UInt8.toNat h4
  have hx:x[n+j].toNat ^^^ t<256:=Nat.xor_lt_two_pow (n:=8) (by omega) (by omega)
  rw [UInt8.toNat_ofNat',Nat.mod_eq_of_lt (by omega)] at h5
  have h6:=congrArg (fun z=>x[n+j].toNat ^^^ z) h5
  simp only [← Nat.xor_assoc,Nat.xor_self,Nat.zero_xor] at h6
  omega
 ·intro hz
  have e:forN (tnF n m) N (byI x)=byI x:=by
   apply List.ext_getElem (by rw [h1])
   intro j q1 q2
   have h3:=h2 j
   rw [getD_lt q1] at h3
   rw [h3]
   by_cases q:n≤j∧j<n+N
   ·rw [if_pos q,hz _ (by omega)]
    have hjx:j<x.length:=by omega
    rw [byI_getD hjx]
    have hb:=x[j].toNat_lt
    rw [show (0:Int)=((0:Nat):Int) from rfl,u8_xor_nat _ _ (by omega) (by decide),Nat.xor_zero]
    have:=byI_getD hjx
    rw [getD_lt q2] at this
    exact this.symm
   ·rw [if_neg q,getD_lt q2]
  rw [e,iBy_byI]
def tnL (n:Nat) (m:Int) (x:LeT):LeT:=(x.1,x.2.1,iBy (forN (tnF n m) (min 4 (x.2.2.1.length-n)) (byI x.2.2.1)),!(iBy (forN (tnF n m) (min 4 (x.2.2.1.length-n)) (byI x.2.2.1))==x.2.2.1))
theorem f_TurnX {l:List LeT} (h:l.length≤100000) (ht:∀x∈l,x.2.2.1.length≤100000) (i k x:Int) {z m:Int} (hz2:z≤9223372036854775807) {q:Nat} {b:Bool} (e:F_lossy_Find l i k x=some ((q:Int),b)) (hq:b=true→q<l.length) :
  F_lossy_Turn l i k x z m=some (if b=false∨z<0∨z≥((l.getD q leZ).2.2.1.length:Int)∨(l.getD q leZ).2.2.2=true then l else l.set q (tnL z.toNat m (l.getD q leZ))):=by
 unfold F_lossy_Turn
 rw [f_cloneL (by omega),Option.bind_some,e,Option.bind_some]
 cases b with
 | false=>rw [if_pos (show (false:Bool)=false∨z<0∨z≥((l.getD q leZ).2.2.1.length:Int)∨(l.getD q leZ).2.2.2=true from .inl rfl)];rfl
 | true =>
  have hq:=hq rfl
  have eg:getD l (toNat (q:Int)) S93.dflt=l.getD q leZ:=by rw [Int.toNat_natCast]
  rw [if_neg (by simp)]
  dsimp only
  rw [eg]
  have hrg:0≤(q:Int)∧(q:Int)<(l.length:Int):=by omega
  have hlen:=ht (l.getD q leZ) (by rw [getD_lt hq];exact List.getElem_mem hq)
  by_cases k1:z<0
  ·rw [if_pos (by simpa using k1),if_pos (show (true:Bool)=false∨z<0∨z≥((l.getD q leZ).2.2.1.length:Int)∨(l.getD q leZ).2.2.2=true from .inr (.inl k1))];rfl
  ·rw [if_neg (by simpa using k1),if_pos hrg]
   by_cases k2:z≥((l.getD q leZ).2.2.1.length:Int)
   ·rw [if_pos (by simpa using k2),if_pos (show (true:Bool)=false∨z<0∨z≥((l.getD q leZ).2.2.1.length:Int)∨(l.getD q leZ).2.2.2=true from .inr (.inr (.inl k2)))];rfl
   ·rw [if_neg (by simpa using k2),if_pos hrg]
    simp only [Option.bind_some]
    by_cases k3:(l.getD q leZ).2.2.2=true
    ·rw [if_pos k3,if_pos (show (true:Bool)=false∨z<0∨z≥((l.getD q leZ).2.2.1.length:Int)∨(l.getD q leZ).2.2.2=true from .inr (.inr (.inr k3)))]
    ·rw [if_neg k3,if_pos hrg,if_neg (fun c=>c.elim (fun c=>(by cases c)) (fun c=>c.elim k1 (fun c=>c.elim k2 k3)))]
     obtain ⟨n,rfl⟩:∃n:Nat,z=(n:Int):=⟨z.toNat,by omega⟩
     have hbl:(byI (l.getD q leZ).2.2.1).length=(l.getD q leZ).2.2.1.length:=by simp [byI]
     have hN:mn 4 (wrap .i64 (((length (byI (l.getD q leZ).2.2.1):Nat):Int)-(n:Int)))=((min 4 ((l.getD q leZ).2.2.1.length-n):Nat):Int):=by
      rw [hbl,wr (by omega),mne];omega
     have hl:=loop_for (N:=min 4 ((l.getD q leZ).2.2.1.length-n)) (mk:=fun (j:Nat) (s:List Int)=>((j:Int),s)) (body:=F_lossy_Turn_b2 l ((q:Int),true) (n:Int) m)
      (tnF n m) (fun s=>s) (fun j s=>s.length=(l.getD q leZ).2.2.1.length) (fun j s hj hs=>?_) (fun s _=>?_) (s:=byI (l.getD q leZ).2.2.1) hbl
     ·have e2:loopO (F_lossy_Turn_b2 l ((q:Int),true) (n:Int) m) (0,byI (l.getD q leZ).2.2.1)=_:=hl.1
      rw [e2,Option.bind_some]
      generalize hr:forN (tnF n m) (min 4 ((l.getD q leZ).2.2.1.length-n)) (byI (l.getD q leZ).2.2.1)=r
      have hset:(length (List.set l (toNat (q:Int)) ((l.getD q leZ).1,(l.getD q leZ).2.1,iBy r,(l.getD q leZ).2.2.2)):Int)=(l.length:Int):=by rw [List.length_set]
      have eg2:getD (List.set l (toNat (q:Int)) ((l.getD q leZ).1,(l.getD q leZ).2.1,iBy r,(l.getD q leZ).2.2.2)) (toNat (q:Int)) S93.dflt=((l.getD q leZ).1,(l.getD q leZ).2.1,iBy r,(l.getD q leZ).2.2.2):=by
       rw [Int.toNat_natCast,List.getD_eq_getElem?_getD,List.getElem?_set,if_pos rfl,if_pos hq];rfl
      rw [if_pos hrg,if_pos hrg,if_pos (by rw [hset];exact hrg),eg2,List.set_set,Int.toNat_natCast,Int.toNat_natCast]
      unfold tnL
      rw [hr]
     ·have hj4:j<4:=by omega
      have hjl:n+j<(l.getD q leZ).2.2.1.length:=by omega
      refine ⟨?_,by unfold tnF;rw [List.length_set];exact hs⟩
      simp only [F_lossy_Turn_b2]
      rw [eg,hN]
      have e3:wrap .i64 ((n:Int)+(j:Int))=((n+j:Nat):Int):=by rw [wr (by omega)];omega
      have h8:(0:Int)≤wrap .i64 (8*(j:Int)):=by rw [wr (by omega)];omega
      rw [if_pos (by simp only [decide_eq_true_eq];omega),e3,if_pos (by rw [hs];omega),if_pos h8,if_pos (by rw [hs];omega),wi (by omega),Int.toNat_natCast]
      rfl
     ·simp only [F_lossy_Turn_b2]
      rw [eg,hN,if_neg (by simp)]
theorem r_Turn {l m:List LeT} (h:LsR l m) (hl:l.length≤4096) (hl6:∀x∈l,x.2.2.1.length=641) (hm6:∀x∈m,x.2.2.1.length=641) (i k x:Int) {z mk:Int} (hz2:z≤9223372036854775807) {l' m':List LeT} (h1:F_lossy_Turn l i k x z mk=some l') (h2:F_lossy_Turn m i k x z mk=some m'):LsR l' m':=by
 have hlen:=h.len
 obtain ⟨q,b,e,hq⟩:=f_Find (l:=l) (by omega) i k x
 have e':=e
 rw [r_Find h] at e'
 rw [f_TurnX (by omega) (fun x hx=>by rw [hl6 x hx];decide) i k x hz2 e hq] at h1
 rw [f_TurnX (by omega) (fun x hx=>by rw [hm6 x hx];decide) i k x hz2 e' (fun c=>by have:=hq c;omega)] at h2
 have h1:=inj h1
 have h2:=inj h2
 by_cases hb:b=true
 ·have hq:=hq hb
  have hq2:q<m.length:=by omega
  have r:=h.at_ q hq
  have a6:(l.getD q leZ).2.2.1.length=641:=hl6 _ (by rw [getD_lt hq];exact List.getElem_mem hq)
  have b6:(m.getD q leZ).2.2.1.length=641:=hm6 _ (by rw [getD_lt hq2];exact List.getElem_mem hq2)
  rw [a6] at h1
  rw [b6] at h2
  by_cases c:b=false∨z<0∨z≥((641:Nat):Int)∨(l.getD q leZ).2.2.2=true
  ·have c2:b=false∨z<0∨z≥((641:Nat):Int)∨(m.getD q leZ).2.2.2=true:=by rw [← r.c];exact c
   rw [if_pos c] at h1
   rw [if_pos c2] at h2
   rw [← h1,← h2];exact h
  ·have c2:¬(b=false∨z<0∨z≥((641:Nat):Int)∨(m.getD q leZ).2.2.2=true):=by rw [← r.c];exact c
   rw [if_neg c] at h1
   rw [if_neg c2] at h2
   have hz0:¬z<0:=fun y=>c (.inr (.inl y))
   have hz1:¬z≥((641:Nat):Int):=fun y=>c (.inr (.inr (.inl y)))
   have hf:(l.getD q leZ).2.2.2=false:=by
    have:¬(l.getD q leZ).2.2.2=true:=fun y=>c (.inr (.inr (.inr y)))
    simpa using this
   have sa:=tn_same z.toNat mk (l.getD q leZ).2.2.1 (N:=min 4 (641-z.toNat)) (by rw [a6];omega)
   have sb:=tn_same z.toNat mk (m.getD q leZ).2.2.1 (N:=min 4 (641-z.toNat)) (by rw [b6];omega)
   have new:LeR (tnL z.toNat mk (l.getD q leZ)) (tnL z.toNat mk (m.getD q leZ)):=by
    unfold tnL
    rw [a6,b6]
    refine ⟨r.a,r.b,?_,fun f=>?_⟩
    ·by_cases w:∀j,j<min 4 (641-z.toNat)→tm8 mk j=0
     ·show (!(_==_))=(!(_==_))
      rw [sa.2 w,sb.2 w];simp
     ·show (!(_==_))=(!(_==_))
      rw [show (iBy (forN (tnF z.toNat mk) (min 4 (641-z.toNat)) (byI (l.getD q leZ).2.2.1))==(l.getD q leZ).2.2.1)=false from by rw [beq_eq_false_iff_ne];exact fun y=>w (sa.1 y),
       show (iBy (forN (tnF z.toNat mk) (min 4 (641-z.toNat)) (byI (m.getD q leZ).2.2.1))==(m.getD q leZ).2.2.1)=false from by rw [beq_eq_false_iff_ne];exact fun y=>w (sb.1 y)]
    ·have f:(!(iBy (forN (tnF z.toNat mk) (min 4 (641-z.toNat)) (byI (l.getD q leZ).2.2.1))==(l.getD q leZ).2.2.1))=false:=f
     have f2:iBy (forN (tnF z.toNat mk) (min 4 (641-z.toNat)) (byI (l.getD q leZ).2.2.1))=(l.getD q leZ).2.2.1:=by simpa using f
     have w:=sa.1 f2
     have f3:=sb.2 w
     obtain ⟨p,p',p1,p2,p3,p4,p5⟩:=r.d hf
     exact ⟨p,p',p1,p2,f2.trans p3,f3.trans p4,p5⟩
   rw [← h1,← h2]
   refine ⟨by rw [List.length_set,List.length_set];exact hlen,fun j hj=>?_⟩
   rw [List.length_set] at hj
   have ga:∀(L:List LeT) (X:LeT),q<L.length→(L.set q X).getD j leZ=if j=q then X else L.getD j leZ:=by
    intro L X hL
    simp only [List.getD_eq_getElem?_getD,List.getElem?_set]
    by_cases e:q=j
    ·subst e;simp [hL]
    ·simp [e,Ne.symm e]
   rw [ga l _ hq,ga m _ hq2]
   split
   ·exact new
   ·exact h.at_ j hj
 ·have hb:b=false:=by simpa using hb
  rw [if_pos (.inl hb)] at h1 h2
  rw [← h1,← h2];exact h
variable {pre preb:List (MT FrT)}
def bT (t:ToT):ToT:=(t.1,t.2.1,t.2.2.1,bH t.2.2.2)
theorem tellC_b (who own:Int):∀(l:List HaT) (inn:I3),(tellC who own inn l).map bT=tellC who own inn (l.map bH)
 | [],_=>rfl
 | h::l,inn=>by
  simp only [tellC,List.map_cons,tellC_b who own l]
  rfl
structure Rb (a b:RuT):Prop where
 w:a.1.1=b.1.1
 c:a.1.2.1.map bC=b.1.2.1.map bC
 u:a.1.2.2.1=b.1.2.2.1
 l:LsR a.1.2.2.2 b.1.2.2.2
 t:a.2.map bT=b.2.map bT
theorem Rb.len {a b:RuT} (h:Rb a b):a.1.2.1.length=b.1.2.1.length:=by
 have:=congrArg length h.c
 simpa using this
theorem getD_bC (l:List CoT) (i:Nat):(l.map bC).getD i (bC coZ)=bC (l.getD i coZ):=by
 rw [List.getD_eq_getElem?_getD,List.getD_eq_getElem?_getD,List.getElem?_map]
 cases l[i]?<;>rfl
theorem Rb.core {a b:RuT} (h:Rb a b) (i:Nat):bC (a.1.2.1.getD i coZ)=bC (b.1.2.1.getD i coZ):=by
 rw [← getD_bC,← getD_bC,h.c]
theorem bC_own {c d:CoT} (h:bC c=bC d):c.own=d.own:=by
 have t:=congrArg (fun x:CoT=>x.2.2.1) h
 exact t
theorem bC_conf {c d:CoT} (h:bC c=bC d):c.conf=d.conf:=by
 have t:=congrArg (fun x:CoT=>x.2.2.2.2.1) h
 exact t
theorem r_has {a b:RuT} (h:Rb a b) (i:Int):F_cluster_run_has a i=F_cluster_run_has b i:=by
 unfold F_cluster_run_has
 rw [h.len,h.u]
theorem r_core {a b:RuT} (h:Rb a b) {i:Nat} {ca cb:CoT} {la lb:List HaT} (hc:bC ca=bC cb) (hl:la.map bH=lb.map bH) {ua ub:List LeT} (hu:LsR ua ub) :
  Rb ((a.1.1,a.1.2.1.set i ca,a.1.2.2.1,ua),a.2++tellC (i:Int) ((a.1.2.1.set i ca).getD i coZ).own (a.1.2.1.getD i coZ).conf la) ((b.1.1,b.1.2.1.set i cb,b.1.2.2.1,ub),b.2++tellC (i:Int) ((b.1.2.1.set i cb).getD i coZ).own (b.1.2.1.getD i coZ).conf lb):=by
 have hs:(a.1.2.1.set i ca).map bC=(b.1.2.1.set i cb).map bC:=by rw [List.map_set,List.map_set,h.c,hc]
 have ho:((a.1.2.1.set i ca).getD i coZ).own=((b.1.2.1.set i cb).getD i coZ).own:=bC_own (by rw [← getD_bC,← getD_bC,hs])
 refine ⟨h.w,hs,h.u,hu,?_⟩
 show List.map bT _=List.map bT _
 rw [List.map_append,List.map_append,tellC_b,tellC_b,h.t,hl,ho,bC_conf (h.core i)]
theorem r_tick {n B:Nat} {a b:RuT} (ha:Cs n B pre a) (hb:Cs n B preb b) (hB:B+9≤700000) (h:Rb a b) {i:Nat} (hi:i<n) {f g:FrT} (hf:∃a b c e g k:EnT,f=[[a,b],[c,e],[g,k]]) (hg:∃x y c e z k:EnT,g=[[x,y],[c,e],[z,k]]) {a' b':RuT}
  (h1:F_cluster_run_tick a (i:Int) f=some a') (h2:F_cluster_run_tick b (i:Int) g=some b'):Rb a' b':=by
 have one:∀{pre:List (MT FrT)} (r:RuT) (f:FrT),Cs n B pre r→(∃a b c e g k:EnT,f=[[a,b],[c,e],[g,k]])→∀r',F_cluster_run_tick r (i:Int) f=some r'→∃(c':CoT) (l':List HaT) (q:Bool) (p:PkT) (u:List LeT),r'=((r.1.1,r.1.2.1.set i c',r.1.2.2.1,u),r.2++tellC (i:Int) ((r.1.2.1.set i c').getD i coZ).own (r.1.2.1.getD i coZ).conf l') ∧
   F_core_Tick (bC (r.1.2.1.getD i coZ)) frZ=some (bC c',q,l'.map bH)∧okPk p∧F_core_Packet (bC c')=some (bP p) ∧
   ∃T:List ToT,loopO (F_cluster_run_tick_b2 ((r.1.1,r.1.2.1.set i c',r.1.2.2),T) (pkS p,0) (i:Int)) (0,(r.1.1,(),(),r.1.2.2.2),())=some ((r.1.1,(),(),u),()):=by
  intro pre r f hr hf r' h1
  unfold F_cluster_run_tick at h1
  have hcl:=hr.cl
  have n8:=hr.n8
  have hrg:0≤(i:Int)∧(i:Int)<(r.1.2.1.length:Int):=by omega
  obtain ⟨x,y,c,e,z,k,rfl⟩:=hf
  obtain ⟨v,ev,hv⟩:=f_fCheck x y c e z k
  rw [ev,Option.bind_some] at h1
  have key:∃f':FrT,(if (v != 0)=true then some (replicate 3 (replicate 2 (0,0,0,0,0,[])) ) else some [[x,y],[c,e],[z,k]]:Option FrT)=some f'∧okFr f':=by
   by_cases q:v=0
   ·rw [if_neg (by simpa using q)];exact ⟨_,rfl,hv.1 q⟩
   ·rw [if_pos (by simpa using q)];exact ⟨frZ,rfl,okFr_zero⟩
  obtain ⟨f',ef,hf'⟩:=key
  rw [ef] at h1
  simp only [Option.bind_some] at h1
  obtain ⟨w,w1,w2,w3,w4⟩:=hr.fit
  obtain ⟨c',bb,l',eT,sT,hl',hk'⟩:=f_Tick w1 hi (w2 i hi) (hr.co i hi) (by omega) hf'
  have eB:=b_Tick w1 hi (w2 i hi) (hr.co i hi) (by omega) eT
  have eg:getD r.1.2.1 (toNat (i:Int)) S78.dflt=r.1.2.1.getD i coZ:=by rw [Int.toNat_natCast]
  rw [if_pos hrg,if_pos hrg,eg,eT,Option.bind_some,if_pos hrg] at h1
  dsimp only at h1
  have hset:(i:Nat)<(List.set r.1.2.1 (toNat (i:Int)) c').length:=by rw [List.length_set];omega
  have htl:=hr.tl
  have et:=f_tell (r:=((r.1.1,List.set r.1.2.1 (toNat (i:Int)) c',r.1.2.2),r.2)) (who:=i) (inn:=(r.1.2.1.getD i coZ).conf) (l:=l') hset (by show r.2.length+_≤_;omega)
  have et':F_cluster_run_tell ((r.1.1,List.set r.1.2.1 (toNat (i:Int)) c',r.1.2.2),r.2) (i:Int) (r.1.2.1.getD i coZ).2.2.2.2.1 l'=_:=et
  rw [et',Option.bind_some] at h1
  obtain ⟨p,ep,hp,hp1,hpI⟩:=f_Packet sT.ok (by omega)
  have ePB:=b_Packet sT.ok (by omega) ep
  rw [ep,Option.bind_some,f_Encode hp,Option.bind_some] at h1
  dsimp only at h1
  obtain ⟨r2,hl2,h1⟩:=obd h1
  have h1:=inj h1
  rw [Int.toNat_natCast] at h1 hl2
  -- the loop leaves all but the letters
  have hl3:=loop_rel (N:=r.1.2.1.length) (mk:=fun (k:Nat) (s:List LeT)=>((k:Int),(r.1.1,(),(),s),()))
   (body:=F_cluster_run_tick_b2 ((r.1.1,r.1.2.1.set i c',r.1.2.2),r.2++tellC (i:Int) ((r.1.2.1.set i c').getD i coZ).own (r.1.2.1.getD i coZ).conf l') (pkS p,0) (i:Int))
   (fun k s=>s.length≤4096) (fun (q:(Int×Unit×Unit×List LeT)×Unit)=>∃s:List LeT,q=((r.1.1,(),(),s),())) (fun k s hk hs=>?_) (fun s hs=>?_) (s:=r.1.2.2.2) hr.ll
  ·obtain ⟨q,eq,s,rfl⟩:=hl3
   have eq':loopO (F_cluster_run_tick_b2 ((r.1.1,r.1.2.1.set i c',r.1.2.2),r.2++tellC (i:Int) ((r.1.2.1.set i c').getD i coZ).own (r.1.2.1.getD i coZ).conf l') (pkS p,0) (i:Int)) (0,(r.1.1,(),(),r.1.2.2.2),())=_:=eq
   rw [eq'] at hl2
   obtain rfl:=inj hl2
   exact ⟨c',l',bb,p,s,h1.symm,eB,hp,ePB,_,eq'⟩
  ·simp only [F_cluster_run_tick_b2]
   have hN:((length (List.set r.1.2.1 i c'):Nat):Int)=(r.1.2.1.length:Int):=by rw [List.length_set]
   rw [hN,if_pos (by simp;omega),wi (by omega)]
   by_cases q:(k:Int)=(i:Int)
   ·rw [if_neg (by simpa using q)]
    exact ⟨s,rfl,hs⟩
   ·rw [if_pos (by simpa using q)]
    simp only [Option.bind_some]
    rw [if_pos (by decide),f_PutX hs,Option.bind_some]
    refine ⟨_,rfl,?_⟩
    split
    ·rw [List.length_append];show _+1≤_;omega
    ·exact hs
  ·refine ⟨_,?_,s,rfl⟩
   simp only [F_cluster_run_tick_b2]
   have hN:((length (List.set r.1.2.1 i c'):Nat):Int)=(r.1.2.1.length:Int):=by rw [List.length_set]
   rw [hN,if_neg (by simp)]
 obtain ⟨ca,la,qa,pa,ua,ea,eaT,hpa,eaP,Ta,eaL⟩:=one a f ha hf a' h1
 obtain ⟨cb,lb,qb,pb,ub,eb,ebT,hpb,ebP,Tb,ebL⟩:=one b g hb hg b' h2
 rw [h.core i,ebT] at eaT
 simp only [injEq,Prod.mk.injEq] at eaT
 have hcc:bC cb=bC ca:=eaT.1
 rw [← hcc,ebP] at eaP
 have hpp:bP pb=bP pa:=inj eaP
 have hlen:=h.len
 have hacl:=ha.cl
 have n8:=ha.n8
 have hL:=loop_rel2 (N:=a.1.2.1.length) (mk1:=fun (k:Nat) (s:List LeT)=>((k:Int),(a.1.1,(),(),s),())) (mk2:=fun (k:Nat) (s:List LeT)=>((k:Int),(b.1.1,(),(),s),()))
  (b1:=F_cluster_run_tick_b2 ((a.1.1,a.1.2.1.set i ca,a.1.2.2),Ta) (pkS pa,0) (i:Int)) (b2:=F_cluster_run_tick_b2 ((b.1.1,b.1.2.1.set i cb,b.1.2.2),Tb) (pkS pb,0) (i:Int))
  (fun k s t=>LsR s t∧s.length≤4096) (fun (x:(Int×Unit×Unit×List LeT)×Unit) (y:(Int×Unit×Unit×List LeT)×Unit)=>LsR x.1.2.2.2 y.1.2.2.2) (fun k s t hk hs=>?_) (fun s t hs=>?_) (s:=a.1.2.2.2) (t:=b.1.2.2.2) ⟨h.l,ha.ll⟩
 ·obtain ⟨x,y,e1,e2,hxy⟩:=hL
  have e1':loopO (F_cluster_run_tick_b2 ((a.1.1,a.1.2.1.set i ca,a.1.2.2),Ta) (pkS pa,0) (i:Int)) (0,(a.1.1,(),(),a.1.2.2.2),())=_:=e1
  have e2':loopO (F_cluster_run_tick_b2 ((b.1.1,b.1.2.1.set i cb,b.1.2.2),Tb) (pkS pb,0) (i:Int)) (0,(b.1.1,(),(),b.1.2.2.2),())=_:=e2
  rw [eaL] at e1'
  rw [ebL] at e2'
  obtain rfl:=inj e1'
  obtain rfl:=inj e2'
  rw [ea,eb]
  exact r_core h hcc.symm eaT.2.2.symm hxy
 ·obtain ⟨hs1,hs2⟩:=hs
  have hst:=hs1.len
  simp only [F_cluster_run_tick_b2]
  have hN:((length (List.set a.1.2.1 i ca):Nat):Int)=(a.1.2.1.length:Int):=by rw [List.length_set]
  have hM:((length (List.set b.1.2.1 i cb):Nat):Int)=(a.1.2.1.length:Int):=by rw [List.length_set,hlen]
  rw [hN,hM,wi (by omega),if_pos (by simp;omega)]
  by_cases q:(k:Int)=(i:Int)
  ·rw [if_neg (by simpa using q),if_pos (by simp;omega)]
   exact ⟨s,t,rfl,rfl,hs1,hs2⟩
  ·rw [if_pos (by simpa using q),if_pos (by simp;omega)]
   simp only [Option.bind_some]
   rw [if_pos (by decide),if_pos (by decide),f_PutX hs2,f_PutX (l:=t) (by omega),Option.bind_some,Option.bind_some]
   refine ⟨_,_,rfl,rfl,hs1.put ⟨rfl,rfl,rfl,fun _=>⟨pa,pb,hpa,hpb,rfl,rfl,hpp.symm⟩⟩,?_⟩
   split
   ·rw [List.length_append];show _+1≤_;omega
   ·exact hs2
 ·refine ⟨((a.1.1,(),(),s),()),((b.1.1,(),(),t),()),?_,?_,hs.1⟩
  ·simp only [F_cluster_run_tick_b2]
   have hN:((length (List.set a.1.2.1 i ca):Nat):Int)=(a.1.2.1.length:Int):=by rw [List.length_set]
   rw [hN,if_neg (by simp)]
  ·simp only [F_cluster_run_tick_b2]
   have hM:((length (List.set b.1.2.1 i cb):Nat):Int)=(a.1.2.1.length:Int):=by rw [List.length_set,hlen]
   rw [hM,if_neg (by simp)]
abbrev Fit (n:Nat) (pre:List (MT FrT)) (r:RuT) (w:MW FrT):Prop:=InvM n w∧(∀i,i<n→w.c i=mc (r.1.2.1.getD i coZ))∧w.told=pre++r.2.map toM∧∀y∈r.1.2.2.2,okLe w y
theorem pk_same {w:MW FrT} {x:LeT} (h:okLe w x) (hf:x.2.2.2=false) {p:PkT} (hp:okPk p) (e:x.2.2.1=pkS p):w.pk (mpk p):=by
 obtain ⟨q,hq,hqw,eq⟩:=h.good hf
 have:some (p,(0:Int))=some (q,0):=by rw [← f_Decode hp,← f_Decode hq,← e,← eq]
 simp only [injEq,Prod.mk.injEq,and_true] at this
 rw [this];exact hqw
theorem r_arrive {n B:Nat} {a b:RuT} (ha:Cs n B pre a) (hb:Cs n B preb b) (hB:B+9≤700000) (h:Rb a b) {x y:LeT} (hxy:LeR x y) (hx:∃w,Fit n pre a w∧okLe w x) (hy:∃w,Fit n preb b w∧okLe w y) {a' b':RuT}
  (h1:F_cluster_run_arrive a x=some a') (h2:F_cluster_run_arrive b y=some b'):Rb a' b':=by
 obtain ⟨w,⟨w1,w2,w3,w4⟩,wx⟩:=hx
 obtain ⟨v,⟨v1,v2,v3,v4⟩,vy⟩:=hy
 unfold F_cluster_run_arrive at h1 h2
 by_cases ht:x.2.2.2=true
 ·obtain ⟨p,ep⟩:=f_DecodeBad wx.len (wx.bad ht)
  obtain ⟨q,eq⟩:=f_DecodeBad vy.len (vy.bad (by rw [← hxy.c];exact ht))
  rw [ep,Option.bind_some,if_pos (by simp)] at h1
  rw [eq,Option.bind_some,if_pos (by simp)] at h2
  have h1:some a=some a':=h1
  have h2:some b=some b':=h2
  obtain rfl:=inj h1
  obtain rfl:=inj h2
  exact h
 ·have hf:x.2.2.2=false:=by simpa using ht
  obtain ⟨p,q,hp,hq,ex,ey,epq⟩:=hxy.d hf
  have hpk:=pk_same wx hf hp ex
  have hqk:=pk_same vy (by rw [← hxy.c];exact hf) hq ey
  rw [ex,f_Decode hp,Option.bind_some,if_neg (by simp)] at h1
  rw [ey,f_Decode hq,Option.bind_some,if_neg (by simp)] at h2
  obtain ⟨z,ez,hz⟩:=f_has a x.2.1
  have ez2:=ez
  rw [r_has h,hxy.b] at ez2
  rw [ez] at h1
  rw [ez2] at h2
  simp only [Option.bind_some] at h1 h2
  cases z with
  | false =>
   have h1:some a=some a':=h1
   have h2:some b=some b':=h2
   obtain rfl:=inj h1
   obtain rfl:=inj h2
   exact h
  | true =>
   obtain ⟨k1,k2,k3⟩:=hz rfl
   obtain ⟨i,ei⟩:∃i:Nat,x.2.1=(i:Int):=⟨x.2.1.toNat,by omega⟩
   have hacl:=ha.cl
   have hbcl:=hb.cl
   have hi:i<n:=by omega
   have eiy:y.2.1=(i:Int):=by rw [← hxy.b,ei]
   have one:∀{pre:List (MT FrT)} (r:RuT) (p:PkT),Cs n B pre r→okPk p→(∃w,Fit n pre r w∧w.pk (mpk p))→∀r',(if (!true)=true then some r else if 0≤(i:Int)∧(i:Int)<((length r.1.2.1:Nat):Int) then (if 0≤(i:Int)∧(i:Int)<((length r.1.2.1:Nat):Int) then (F_core_Receive (getD r.1.2.1 (toNat (i:Int)) S78.dflt) p).bind fun t2=>(if 0≤(i:Int)∧(i:Int)<((length r.1.2.1:Nat):Int) then (F_cluster_run_tell ((r.1.1,List.set r.1.2.1 (toNat (i:Int)) t2.1,r.1.2.2),r.2) (i:Int) (getD r.1.2.1 (toNat (i:Int)) S78.dflt).2.2.2.2.1 t2.2.2).bind fun t3=>(some t3) else none) else none) else none)=some r' →
     ∃(c':CoT) (l':List HaT) (q:Bool),r'=((r.1.1,r.1.2.1.set i c',r.1.2.2.1,r.1.2.2.2),r.2++tellC (i:Int) ((r.1.2.1.set i c').getD i coZ).own (r.1.2.1.getD i coZ).conf l')∧F_core_Receive (bC (r.1.2.1.getD i coZ)) (bP p)=some (bC c',q,l'.map bH):=by
    intro pre r p hr hp ⟨w,⟨w1,w2,w3,w4⟩,hpk⟩ r' h1
    have hcl:=hr.cl
    have hrg:0≤(i:Int)∧(i:Int)<(r.1.2.1.length:Int):=by omega
    obtain ⟨c',bb,l',eR,sR,hl',hk'⟩:=f_Receive w1 hi (w2 i hi) (hr.co i hi) (by omega) hp hpk
    have eB:=b_Receive w1 hi (w2 i hi) (hr.co i hi) (by omega) hp hpk eR
    have eg:getD r.1.2.1 (toNat (i:Int)) S78.dflt=r.1.2.1.getD i coZ:=by rw [Int.toNat_natCast]
    rw [if_neg (by decide),if_pos hrg,if_pos hrg,eg,eR,Option.bind_some,if_pos hrg] at h1
    have hset:(i:Nat)<(List.set r.1.2.1 (toNat (i:Int)) c').length:=by rw [List.length_set];omega
    have htl:=hr.tl
    have et:=f_tell (r:=((r.1.1,List.set r.1.2.1 (toNat (i:Int)) c',r.1.2.2),r.2)) (who:=i) (inn:=(r.1.2.1.getD i coZ).conf) (l:=l') hset (by show r.2.length+_≤_;omega)
    have et':F_cluster_run_tell ((r.1.1,List.set r.1.2.1 (toNat (i:Int)) c',r.1.2.2),r.2) (i:Int) (r.1.2.1.getD i coZ).2.2.2.2.1 l'=_:=et
    dsimp only at h1
    rw [et',Option.bind_some,Int.toNat_natCast] at h1
    exact ⟨c',l',bb,(inj h1).symm,eB⟩
   rw [ei] at h1
   rw [eiy] at h2
   obtain ⟨ca,la,qa,ea,eaR⟩:=one a p ha hp ⟨w,⟨w1,w2,w3,w4⟩,hpk⟩ a' h1
   obtain ⟨cb,lb,qb,eb,ebR⟩:=one b q hb hq ⟨v,⟨v1,v2,v3,v4⟩,hqk⟩ b' h2
   rw [h.core i,epq,ebR] at eaR
   simp only [injEq,Prod.mk.injEq] at eaR
   rw [ea,eb]
   exact r_core h eaR.1.symm eaR.2.2.symm h.l
theorem r_letter {n B:Nat} {a b:RuT} (ha:Cs n B pre a) (hb:Cs n B preb b) (hB:B+9≤700000) (h:Rb a b) {d e:DeT} (hd:okDe d) (h0:e.1=d.1) (h01:e.2.1=d.2.1) (h02:e.2.2.1=d.2.2.1) (h03:e.2.2.2.1=d.2.2.2.1) (h04:e.2.2.2.2.1=d.2.2.2.2.1) (h05:e.2.2.2.2.2.1=d.2.2.2.2.2.1) {a' b':RuT}
  (h1:F_cluster_run_letter a d=some a') (h2:F_cluster_run_letter b e=some b'):Rb a' b':=by
 unfold F_cluster_run_letter at h1 h2
 rw [h0,h01,h02,h03,h04,h05] at h2
 have hall:=ha.ll
 have hlen:=h.l.len
 obtain ⟨w,w1,w2,w3,w4⟩:=ha.fit
 obtain ⟨v,v1,v2,v3,v4⟩:=hb.fit
 by_cases k4:d.1=4
 ·rw [if_pos (by simpa using k4)] at h1 h2
  obtain ⟨l',e1,h1⟩:=obd h1
  obtain ⟨m',e2,h2⟩:=obd h2
  have:=r_Turn h.l hall (fun x hx=>(w4 x hx).len) (fun x hx=>(v4 x hx).len) _ _ _ hd.1 e1 e2
  obtain rfl:=inj h1
  obtain rfl:=inj h2
  exact ⟨h.w,h.c,h.u,this,h.t⟩
 ·rw [if_neg (by simpa using k4)] at h1 h2
  obtain ⟨⟨l',x,p⟩,e1,h1⟩:=obd h1
  obtain ⟨⟨m',y,q⟩,e2,h2⟩:=obd h2
  obtain ⟨hpq,hr⟩:=r_Take h.l hall _ _ _ e1 e2
  subst hpq
  cases p with
  | false =>
   have h1:some a=some a':=h1
   have h2:some b=some b':=h2
   obtain rfl:=inj h1
   obtain rfl:=inj h2
   exact h
  | true =>
   obtain ⟨r1,r2,r3,r4,r5,r6⟩:=hr rfl
   have h':Rb ((a.1.1,a.1.2.1,a.1.2.2.1,l'),a.2) ((b.1.1,b.1.2.1,b.1.2.2.1,m'),b.2):=⟨h.w,h.c,h.u,r1,h.t⟩
   have hl':l'.length≤4096∧m'.length≤4096:=by
    obtain ⟨l2,x2,b2,t2,tb⟩:=f_LTake (l:=a.1.2.2.2) (by omega) d.2.1 d.2.2.1 d.2.2.2.1
    rw [t2] at e1
    simp only [injEq,Prod.mk.injEq] at e1
    have:=(tb e1.2.2).2.1
    rw [e1.1] at this
    have:=r1.len
    omega
   have ha':Cs n B pre ((a.1.1,a.1.2.1,a.1.2.2.1,l'),a.2):=⟨ha.n8,ha.wait,ha.cl,ha.ul,ha.co,hl'.1,⟨w,w1,w2,w3,fun z hz=>w4 z (r5 z hz)⟩,ha.tk,ha.tl⟩
   have hb':Cs n B preb ((b.1.1,b.1.2.1,b.1.2.2.1,m'),b.2):=⟨hb.n8,hb.wait,hb.cl,hb.ul,hb.co,hl'.2,⟨v,v1,v2,v3,fun z hz=>v4 z (r6 z hz)⟩,hb.tk,hb.tl⟩
   rw [if_neg (by simp)] at h1 h2
   by_cases k2:d.1=2
   ·rw [if_neg (by simpa using k2),if_pos (by simp [k2])] at h1 h2
    obtain ⟨a2,e3,h1⟩:=obd h1
    obtain ⟨b2,e4,h2⟩:=obd h2
    obtain rfl:=inj h1
    obtain rfl:=inj h2
    exact r_arrive ha hb hB h r2 ⟨w,⟨w1,w2,w3,w4⟩,w4 x r3⟩ ⟨v,⟨v1,v2,v3,v4⟩,v4 y r4⟩ e3 e4
   ·rw [if_pos (by simpa using k2)] at h1 h2
    by_cases k3:d.1=3
    ·rw [if_neg (by simpa using k3)] at h1 h2
     obtain rfl:=inj h1
     obtain rfl:=inj h2
     exact h'
    ·rw [if_pos (by simpa using k3)] at h1 h2
     obtain ⟨a2,e3,h1⟩:=obd h1
     obtain ⟨b2,e4,h2⟩:=obd h2
     obtain rfl:=inj h1
     obtain rfl:=inj h2
     exact r_arrive ha' hb' hB h' r2 ⟨w,⟨w1,w2,w3,fun z hz=>w4 z (r5 z hz)⟩,w4 x r3⟩ ⟨v,⟨v1,v2,v3,fun z hz=>v4 z (r6 z hz)⟩,v4 y r4⟩ e3 e4
variable {pre preb:List (MT FrT)}
theorem r_up {n B:Nat} {a b:RuT} (ha:Cs n B pre a) (hb:Cs n B preb b) (h:Rb a b) (x:Int) {a' b':RuT} (h1:F_cluster_run_up a x=some a') (h2:F_cluster_run_up b x=some b'):Rb a' b':=by
 have hlen:=h.len
 have hcore:=h.core x.toNat
 have hown:(getD a.1.2.1 (toNat x) S78.dflt).2.2.1=(getD b.1.2.1 (toNat x) S78.dflt).2.2.1:=bC_own hcore
 unfold F_cluster_run_up at h1 h2
 rw [← hlen,← h.u,← h.w,← hown] at h2
 obtain ⟨r1,e1,h1⟩:=obd h1
 rw [e1,Option.bind_some] at h2
 cases r1 with
 | true =>
  have h1:some a=some a':=h1
  have h2:some b=some b':=h2
  obtain rfl:=inj h1
  obtain rfl:=inj h2
  exact h
 | false =>
  rw [if_neg (by decide)] at h1 h2
  obtain ⟨g,h1⟩:=ifg h1
  rw [if_pos g] at h2
  obtain ⟨t1,e2,h1⟩:=obd h1
  rw [e2,Option.bind_some] at h2
  by_cases q:t1.2=true
  ·rw [if_pos q] at h1 h2
   obtain ⟨g2,h1⟩:=ifg h1
   obtain ⟨g3,h1⟩:=ifg h1
   rw [if_pos g2,if_pos g3] at h2
   obtain rfl:=inj h1
   obtain rfl:=inj h2
   exact ⟨rfl,by show List.map bC (List.set _ _ _)=List.map bC (List.set _ _ _);rw [List.map_set,List.map_set,h.c],rfl,h.l,h.t⟩
  ·rw [if_neg q] at h1 h2
   obtain rfl:=inj h1
   obtain rfl:=inj h2
   exact h
theorem r_step {n B:Nat} {a b:RuT} (ha:Cs n B pre a) (hb:Cs n B preb b) (hB:B+9≤700000) (h:Rb a b) {d e:DeT} (hd:okDe d) (he:okDe e) (h0:e.1=d.1) (h01:e.2.1=d.2.1) (h02:e.2.2.1=d.2.2.1) (h03:e.2.2.2.1=d.2.2.2.1) (h04:e.2.2.2.2.1=d.2.2.2.2.1) (h05:e.2.2.2.2.2.1=d.2.2.2.2.2.1) {a' b':RuT}
  (h1:F_cluster_run_step a d=some a') (h2:F_cluster_run_step b e=some b'):Rb a' b':=by
 unfold F_cluster_run_step at h1 h2
 rw [h0,h01] at h2
 have hacl:=ha.cl
 have haul:=ha.ul
 by_cases k0:d.1=0
 ·rw [if_pos (by simpa using k0)] at h1 h2
  obtain ⟨z,ez,hz⟩:=f_has a d.2.1
  have ez2:=ez
  rw [r_has h] at ez2
  rw [ez,Option.bind_some] at h1
  rw [ez2,Option.bind_some] at h2
  cases z with
  | false =>
   have h1:some a=some a':=h1
   have h2:some b=some b':=h2
   obtain rfl:=inj h1
   obtain rfl:=inj h2
   exact h
  | true =>
   obtain ⟨k1,k2,k3⟩:=hz rfl
   obtain ⟨i,ei⟩:∃i:Nat,d.2.1=(i:Int):=⟨d.2.1.toNat,by omega⟩
   rw [if_pos rfl,ei] at h1 h2
   obtain ⟨a2,e3,h1⟩:=obd h1
   obtain ⟨b2,e4,h2⟩:=obd h2
   obtain rfl:=inj h1
   obtain rfl:=inj h2
   exact r_tick ha hb hB h (i:=i) (by omega) hd.2 he.2 e3 e4
 ·rw [if_neg (by simpa using k0)] at h1 h2
  obtain ⟨z,ez,h1⟩:=obd h1
  rw [ez,Option.bind_some] at h2
  cases z with
  | true =>
   have h1:(F_cluster_run_letter a d).bind (fun t3=>some t3)=some a':=h1
   have h2:(F_cluster_run_letter b e).bind (fun t3=>some t3)=some b':=h2
   obtain ⟨a2,e3,h1⟩:=obd h1
   obtain ⟨b2,e4,h2⟩:=obd h2
   obtain rfl:=inj h1
   obtain rfl:=inj h2
   exact r_letter ha hb hB h hd h0 h01 h02 h03 h04 h05 e3 e4
  | false =>
   rw [if_neg (by decide)] at h1 h2
   by_cases k5:d.1=5
   ·rw [if_pos (by simpa using k5)] at h1 h2
    obtain ⟨v,ev,hv⟩:=f_has a d.2.1
    have ev2:=ev
    rw [r_has h] at ev2
    rw [ev,Option.bind_some] at h1
    rw [ev2,Option.bind_some] at h2
    cases v with
    | false =>
     have h1:some a=some a':=h1
     have h2:some b=some b':=h2
     obtain rfl:=inj h1
     obtain rfl:=inj h2
     exact h
    | true =>
     rw [if_pos rfl] at h1 h2
     obtain ⟨g,h1⟩:=ifg h1
     obtain ⟨g2,h2⟩:=ifg h2
     obtain rfl:=inj h1
     obtain rfl:=inj h2
     exact ⟨h.w,h.c,by show List.set _ _ _=List.set _ _ _;rw [h.u],h.l,h.t⟩
   ·rw [if_neg (by simpa using k5)] at h1 h2
    by_cases k6:d.1=6
    ·rw [if_pos (by simpa using k6)] at h1 h2
     obtain ⟨a2,e3,h1⟩:=obd h1
     obtain ⟨b2,e4,h2⟩:=obd h2
     obtain rfl:=inj h1
     obtain rfl:=inj h2
     exact r_up ha hb h _ e3 e4
    ·rw [if_neg (by simpa using k6)] at h1 h2
     obtain rfl:=inj h1
     obtain rfl:=inj h2
     exact h
theorem f_Run1 {n B:Nat} {c:ClT} (h:Cs n B pre (c,[])) (hB:B≤700000) {d:DeT} {s:RuT} (hs:F_cluster_run_step (c,[]) d=some s):F_cluster_Step c d=some s:=by
 unfold F_cluster_Step F_cluster_Run
 have hul:=h.ul
 have hcl:=h.cl
 have hll:=h.ll
 have n8:=h.n8
 have e1:F_slices_Clone_bool_bool c.2.2.1=some c.2.2.1:=f_cloneB (by show c.2.2.1.length≤_;have:c.2.2.1.length=n:=hul;omega)
 have e2:F_slices_Clone_api_Letter_api_Letter c.2.2.2=some c.2.2.2:=f_cloneL (by have:c.2.2.2.length≤4096:=hll;omega)
 rw [e1,Option.bind_some,e2,Option.bind_some]
 have hcl':c.2.1.length=n:=hcl
 have h1:=loop_for (N:=c.2.1.length) (mk:=fun (k:Nat) (s:List CoT)=>((k:Int),s)) (body:=F_cluster_Run_b1 c) (fun k s=>s++[c.2.1.getD k coZ]) (fun s=>s) (fun k s=>s=c.2.1.take k) (fun k s hk hs=>?_) (fun s _=>?_) (s:=[]) (by simp)
 ·obtain ⟨e3,i3⟩:=h1
  have e3:loopO (F_cluster_Run_b1 c) (0,[])=_:=e3
  rw [e3,Option.bind_some]
  rw [List.take_length] at i3
  rw [i3]
  have g0:F_cluster_Run_b2 [d] (0,((c.1,(),(),c.2.2.2),()),c.2.1,c.2.2.1,[])=some (.inl (1,((s.1.1,(),(),s.1.2.2.2),()),s.1.2.1,s.1.2.2.1,s.2)):=by
   simp only [F_cluster_Run_b2]
   have hs':F_cluster_run_step ((c.1,c.2.1,c.2.2.1,c.2.2.2),[]) (getD [d] (toNat 0) S66.dflt)=some s:=hs
   rw [if_pos (by simp),if_pos (by simp),hs',Option.bind_some,wr (by decide)];rfl
  have g1:F_cluster_Run_b2 [d] (1,((s.1.1,(),(),s.1.2.2.2),()),s.1.2.1,s.1.2.2.1,s.2)=some (.inr (((s.1.1,(),(),s.1.2.2.2),()),s.1.2.1,s.1.2.2.1,s.2)):=by
   simp only [F_cluster_Run_b2]
   rw [if_neg (by simp)]
  rw [loopO_go g0,loopO_end g1];rfl
 ·have ok:=h.co k (by omega)
  have hk2:(c.2.1.getD k coZ).kept.length≤B:=ok.klen
  refine ⟨?_,?_⟩
  ·simp only [F_cluster_Run_b1]
   rw [if_pos (by simp;omega),if_pos (by omega)]
   simp only [Int.toNat_natCast,wi (show k<1000000000000 by omega)]
   have e4:F_slices_Clone_api_Kept_api_Kept (getD c.2.1 k S78.dflt).2.2.2.2.2.2.2.1=some (c.2.1.getD k coZ).kept:=f_cloneK (l:=(c.2.1.getD k coZ).kept) (by omega)
   rw [e4,Option.bind_some,if_pos (apOk_s (by rw [hs,List.length_take];omega) (by rw [hs,List.length_take];omega))]
  ·rw [hs,List.take_add_one,List.getElem?_eq_getElem hk,getD_lt hk];rfl
 ·simp only [F_cluster_Run_b1]
  rw [if_neg (by simp)]
theorem f_Blank {t:List ToT} (h:t.length≤100000):F_congressref15_Blank t=some (t.map bT):=by
 unfold F_congressref15_Blank
 have:=loop_for (N:=t.length) (mk:=fun (k:Nat) (s:List ToT)=>((k:Int),s)) (body:=F_congressref15_Blank_b1 t) (fun k s=>s++[bT (t.getD k toZ)]) (fun s=>s) (fun k s=>s=(t.take k).map bT)
  (fun k s hk hs=>?_) (fun s _=>?_) (s:=[]) (by simp)
 ·obtain ⟨e,i⟩:=this
  have e:loopO (F_congressref15_Blank_b1 t) (0,[])=_:=e
  rw [e,i,List.take_length];rfl
 ·refine ⟨?_,?_⟩
  ·simp only [F_congressref15_Blank_b1]
   rw [if_pos (by simp;omega),if_pos (by omega),if_pos (apOk_s (by rw [hs,List.length_map,List.length_take];omega) (by rw [hs,List.length_map,List.length_take];omega))]
   simp only [Int.toNat_natCast,wi (show k<1000000000000 by omega)]
   rfl
  ·rw [hs,List.take_add_one,List.getElem?_eq_getElem hk,getD_lt hk,List.map_append];rfl
 ·simp only [F_congressref15_Blank_b1]
  rw [if_neg (by simp)]
theorem eqT {a b:ToT}:Sh.eqb S50 a b=true↔a=b:=eqb_iff (s:=S50) rfl a b
theorem f_SameT {t:List ToT} (h:t.length≤100000):F_congressref15_Same t t=some true:=by
 unfold F_congressref15_Same
 rw [if_neg (by simp)]
 have:loopO (F_congressref15_Same_b1 t t) 0=some (.inr ()):=by
  refine loop_skip (N:=t.length) (mk:=fun (k:Nat)=>(k:Int)) (fun i hi=>?_) ?_
  ·simp only [F_congressref15_Same_b1]
   rw [if_pos (by simp;omega),if_pos (by omega),if_pos (by omega),show Sh.eqb S50 (getD t (toNat (i:Int)) S50.dflt) (getD t (toNat (i:Int)) S50.dflt)=true from eqT.2 rfl,if_neg (by decide),wi (by omega)]
  ·simp only [F_congressref15_Same_b1]
   rw [if_neg (by simp)]
 rw [this];rfl
theorem f_Plain {c:CoT} (h:c.kept.length≤1000000):F_congressref13_Plain c=some (bC c):=by
 unfold F_congressref13_Plain
 have:=loop_for (N:=c.kept.length) (mk:=fun (k:Nat) (s:List KpT)=>((k:Int),s)) (body:=F_congressref13_Plain_b1 c) (fun k s=>s++[bK (c.kept.getD k kpZ)]) (fun s=>s) (fun k s=>s=(c.kept.take k).map bK)
  (fun k s hk hs=>?_) (fun s _=>?_) (s:=[]) (by simp)
 ·obtain ⟨e,i⟩:=this
  have e:loopO (F_congressref13_Plain_b1 c) (0,[])=_:=e
  rw [e,i,List.take_length];rfl
 ·refine ⟨?_,?_⟩
  ·simp only [F_congressref13_Plain_b1]
   have hl:((length c.2.2.2.2.2.2.2.1:Nat):Int)=(c.kept.length:Int):=rfl
   rw [hl,if_pos (by simp;omega),if_pos (by omega),if_pos (by omega),if_pos (apOk_s (by rw [hs,List.length_map,List.length_take];omega) (by rw [hs,List.length_map,List.length_take];omega))]
   simp only [Int.toNat_natCast,wi (show k<1000000000000 by omega)]
   rfl
  ·rw [hs,List.take_add_one,List.getElem?_eq_getElem hk,getD_lt hk,List.map_append];rfl
 ·simp only [F_congressref13_Plain_b1]
  have hl:((length c.2.2.2.2.2.2.2.1:Nat):Int)=(c.kept.length:Int):=rfl
  rw [hl,if_neg (by simp)]
theorem eqb_refl {s:Sh} (h:s.cmpB=true) (x:s.ty):s.eqb x x=true:=(eqb_iff h x x).2 rfl
theorem f_SameK {l:List KpT} (h:l.length≤1000000):F_congressref10_Same l l=some true:=by
 unfold F_congressref10_Same
 rw [if_neg (by simp)]
 have:loopO (F_congressref10_Same_b1 l l) 0=some (.inr ()):=by
  refine loop_skip (N:=l.length) (mk:=fun (k:Nat)=>(k:Int)) (fun i hi=>?_) ?_
  ·simp only [F_congressref10_Same_b1]
   rw [if_pos (by simp;omega),if_pos (by omega),if_pos (by omega),eqb_refl (s:=S44) rfl,if_neg (by decide),wi (by omega)]
  ·simp only [F_congressref10_Same_b1]
   rw [if_neg (by simp)]
 rw [this];rfl
theorem f_Is {c:CoT} (h:c.kept.length≤1000000):F_congressref13_Is c c=some true:=by
 unfold F_congressref13_Is
 have e:=f_SameK h
 have e':F_congressref10_Same c.2.2.2.2.2.2.2.1 c.2.2.2.2.2.2.2.1=some true:=e
 rw [eqb_refl (s:=S72) rfl,eqb_refl (s:=S36) rfl,eqb_refl (s:=S36) rfl,eqb_refl (s:=.arr 8 (.int .u32)) rfl,eqb_refl (s:=.arr 8 (.int .u32)) rfl,eqb_refl (s:=.arr 8 (.int .u32)) rfl,eqb_refl (s:=.arr 8 (.int .u32)) rfl,eqb_refl (s:=.arr 8 S75) rfl,e']
 simp
theorem Cs.clear {n B:Nat} {r:RuT} (h:Cs n B pre r):Cs n B (pre++r.2.map toM) (r.1,[]) :=
 ⟨h.n8,h.wait,h.cl,h.ul,h.co,h.ll,let ⟨w,a,b,c,d⟩:=h.fit;⟨w,a,b,by rw [c];simp,d⟩,fun t ht=>absurd ht (List.not_mem_nil),Nat.zero_le _⟩
theorem Rb.clear {a b:RuT} (h:Rb a b):Rb (a.1,[]) (b.1,[]):=⟨h.w,h.c,h.u,h.l,rfl⟩
theorem Rb.refl {n B:Nat} {a:RuT} (h:Cs n B pre a) (hl:a.1.2.2.2=[]):Rb a a:=⟨rfl,rfl,rfl,⟨rfl,fun i hi=>by rw [hl] at hi;exact absurd hi (by simp)⟩,rfl⟩
theorem l_Blind {x:PlT} {o:List FrT} (h:okPl x) (ho:∀f∈o,∃a b c d e g:EnT,f=[[a,b],[c,d],[e,g]]) (hol:o.length≤maxLen):F_congresslaw15_ClusterBlind x o=some true:=by
 unfold F_congresslaw15_ClusterBlind
 obtain ⟨c,b,e,hb⟩:=f_Begin x.1 x.2.1
 rw [e,Option.bind_some,Option.bind_some,f_fixed]
 cases b with
 | false=>rfl
 | true =>
  obtain ⟨hc,hc2⟩:=hb rfl
  simp only [Option.bind_some]
  rw [if_neg (by simp),Option.bind_some,if_neg (by simp)]
  have hl:=loop_rel (N:=min x.2.2.length 100) (mk:=fun (k:Nat) (s:ClT×ClT)=>((k:Int),s.1,s.2)) (body:=F_congresslaw15_ClusterBlind_b2 x o)
   (fun k s=>(∃p,Cs x.1.toNat (9*k) p (s.1,[]))∧(∃p,Cs x.1.toNat (9*k) p (s.2,[]))∧Rb (s.1,[]) (s.2,[])) (fun (r:Bool⊕Unit)=>r=.inr ()) (fun k s hk hs=>?_) (fun s hs=>?_) (s:=(c,c)) ⟨⟨_,hc⟩,⟨_,hc⟩,Rb.refl hc hc2⟩
  ·obtain ⟨r,er,rfl⟩:=hl
   have er':loopO (F_congresslaw15_ClusterBlind_b2 x o) (0,c,c)=_:=er
   rw [er'];rfl
  ·obtain ⟨⟨p,hp⟩,⟨q,hq⟩,hr⟩:=hs
   have hk2:k<x.2.2.length:=by omega
   have hd:=h (x.2.2.getD k deZ) (by rw [getD_lt hk2];exact List.getElem_mem hk2)
   obtain ⟨s1,e1,h1⟩:=f_step hp (by omega) hd
   have E1:=f_Run1 hp (by omega) e1
   -- the other deed
   have key:∃d2:DeT,(if (decide ((k:Int)<((length o:Nat):Int)))=true then if 0≤(k:Int)∧(k:Int)<((length o:Nat):Int) then (some ((getD x.2.2 k S66.dflt).1,(getD x.2.2 k S66.dflt).2.1,(getD x.2.2 k S66.dflt).2.2.1,(getD x.2.2 k S66.dflt).2.2.2.1,(getD x.2.2 k S66.dflt).2.2.2.2.1,(getD x.2.2 k S66.dflt).2.2.2.2.2.1,getD o k (replicate 3 (replicate 2 (0,0,0,0,0,[]))))) else none
     else some ((getD x.2.2 k S66.dflt).1,(getD x.2.2 k S66.dflt).2.1,(getD x.2.2 k S66.dflt).2.2.1,(getD x.2.2 k S66.dflt).2.2.2.1,(getD x.2.2 k S66.dflt).2.2.2.2.1,(getD x.2.2 k S66.dflt).2.2.2.2.2.1,replicate 3 (replicate 2 (0,0,0,0,0,[]))):Option DeT)=some d2∧okDe d2∧d2.1=(x.2.2.getD k deZ).1∧d2.2.1=(x.2.2.getD k deZ).2.1∧d2.2.2.1=(x.2.2.getD k deZ).2.2.1∧d2.2.2.2.1=(x.2.2.getD k deZ).2.2.2.1∧d2.2.2.2.2.1=(x.2.2.getD k deZ).2.2.2.2.1∧d2.2.2.2.2.2.1=(x.2.2.getD k deZ).2.2.2.2.2.1:=by
    by_cases q1:k<o.length
    ·rw [if_pos (by simp;omega),if_pos (by omega)]
     refine ⟨_,rfl,⟨hd.1,?_⟩,rfl,rfl,rfl,rfl,rfl,rfl⟩
     have:=ho (o.getD k frZ) (by rw [getD_lt q1];exact List.getElem_mem q1)
     exact this
    ·rw [if_neg (by simp;omega)]
     exact ⟨_,rfl,⟨hd.1,⟨enZ,enZ,enZ,enZ,enZ,enZ,rfl⟩⟩,rfl,rfl,rfl,rfl,rfl,rfl⟩
   obtain ⟨d2,ed,od,z0,z1,z2,z3,z4,z5⟩:=key
   obtain ⟨s2,e2,h2⟩:=f_step hq (by omega) od
   have E2:=f_Run1 hq (by omega) e2
   have R:=r_step hp hq (by omega) hr hd od z0 z1 z2 z3 z4 z5 e1 e2
   have t1:=h1.tl
   have t2:=h2.tl
   have c1:=h1.cl
   have c2:=h2.cl
   have n8:=h1.n8
   refine ⟨(s1.1,s2.1),?_,⟨_,(h1.clear).mono (by omega)⟩,⟨_,(h2.clear).mono (by omega)⟩,R.clear⟩
   simp only [F_congresslaw15_ClusterBlind_b2]
   rw [if_pos (by simp;omega),show decide ((k:Int)<100)=true from decide_eq_true (by omega)]
   simp only [Option.bind_some]
   rw [if_pos trivial,if_pos (by omega)]
   simp only [Int.toNat_natCast,wi (show k<1000000000000 by omega)]
   have E1':F_cluster_Step s.1 (getD x.2.2 k S66.dflt)=some s1:=E1
   rw [E1',Option.bind_some,ed,Option.bind_some,E2,Option.bind_some,f_Blank (by omega),Option.bind_some,f_Blank (by omega),Option.bind_some,R.t,f_SameT (by rw [List.length_map];omega)]
   simp only [Option.bind_some]
   have l1:((length s1.1.2.2.2:Nat):Int)=((length s2.1.2.2.2:Nat):Int):=by rw [R.l.len]
   have l2:((length s1.1.2.1:Nat):Int)=((length s2.1.2.1:Nat):Int):=by rw [R.len]
   rw [if_neg (by decide),l1,if_neg (by simp),l2]
   simp only [Option.bind_some]
   rw [if_neg (by simp)]
   have inner:loopO (F_congresslaw15_ClusterBlind_b6 s1 s2) 0=some (.inr ()):=by
    refine loop_skip (N:=s1.1.2.1.length) (mk:=fun (k:Nat)=>(k:Int)) (fun j hj=>?_) ?_
    ·simp only [F_congresslaw15_ClusterBlind_b6]
     have ka:=(h1.co j (by omega)).klen
     have kb:=(h2.co j (by omega)).klen
     have ea:F_congressref13_Plain (getD s1.1.2.1 j S78.dflt)=some (bC (s1.1.2.1.getD j coZ)):=f_Plain (c:=s1.1.2.1.getD j coZ) (by omega)
     have eb:F_congressref13_Plain (getD s2.1.2.1 j S78.dflt)=some (bC (s2.1.2.1.getD j coZ)):=f_Plain (c:=s2.1.2.1.getD j coZ) (by omega)
     rw [if_pos (by simp;omega),if_pos (by omega)]
     simp only [Int.toNat_natCast,wi (show j<1000000000000 by omega)]
     rw [ea,Option.bind_some,if_pos (by omega),eb,Option.bind_some,R.core j,f_Is (by show (List.map bK _).length≤_;rw [List.length_map];omega),Option.bind_some,if_neg (by decide)]
    ·simp only [F_congresslaw15_ClusterBlind_b6]
     rw [if_neg (by simp)]
   rw [inner];rfl
  ·refine ⟨.inr (),?_,rfl⟩
   simp only [F_congresslaw15_ClusterBlind_b2]
   by_cases q:((min x.2.2.length 100:Nat):Int)<((length x.2.2:Nat):Int)
   ·rw [if_pos (by rw [decide_eq_true_eq];exact q),show decide (((min x.2.2.length 100:Nat):Int)<100)=false from decide_eq_false (by omega)];rfl
   ·rw [if_neg (by rw [decide_eq_true_eq];exact q)];rfl
theorem okFs_of {o:List FrT} (h:(Sh.sl (.arr 3 (.arr 2 S39))).ok o):(∀f∈o,∃a b c d e g:EnT,f=[[a,b],[c,d],[e,g]])∧o.length≤maxLen:=by
 simp only [Sh.ok] at h
 obtain ⟨h3,h4⟩:=h
 refine ⟨fun f hf=>?_,h3⟩
 obtain ⟨k7,k8⟩:=h4 f hf
 match f,k7,k8 with
 | [a,b,c],_,k8 =>
  have ha:=(k8 a (by simp)).1
  have hb:=(k8 b (by simp)).1
  have hc:=(k8 c (by simp)).1
  match a,b,c,ha,hb,hc with
  | [a1,a2],[b1,b2],[c1,c2],_,_,_=>exact ⟨a1,a2,b1,b2,c1,c2,rfl⟩
end Go.Proofs.YtjcbamenfaoffaaGreatDoor.Cl
