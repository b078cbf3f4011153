/- Laws of my own that the statement leans on; part H4. -/
import Derived.Shelf.Strings.Trim
import Derived.Shelf.Strings.Repeat
import Derived.Test.YtjcbamenfaoffaaGreatDoorProg
import Derived.WalkKit
import Derived.WalkSpells
import Derived.WalkLawsBesides
import Derived.Lib.Hide
import Derived.Laws.BytesArg
import Derived.ChangeKeysEq
import Derived.Laws.MakeOwn
import Derived.Deep.QuietTactic
import Derived.BigQuiet
import Derived.Laws.BitsAllLaws
import Derived.Lib.AppendStr
import Derived.Lib.UnsafeStr
import Derived.Shelf.Strings.Builder1
import Derived.Lib.AppendZeros
import Derived.Test.YtjcbamenfaoffaaGreatDoorRows
import Derived.ProofKit
import Derived.OpenShut
import Derived.Deep.DeepHandedRow
import Derived.SizedLaws
import Derived.ChangeOld
import Derived.Deep.Slices
import Derived.Test.YtjcbamenfaoffaaGreatDoorH3
set_option linter.unusedVariables false
set_option linter.unusedSimpArgs false
open List (length replicate getD drop take)
open Option.some (inj injEq)
open Int (toNat)
open Go.IntKind (wrap)
namespace Go.Proofs
open Go.Shelf
def Tryz.lays160_ren:Go.Shelf.Ren:=⟨fun|160=>204|232=>210|231=>209|227=>211|234=>213|233=>212|236=>215|235=>214|228=>217|271=>220|151=>219|197=>218|120=>223|152=>222|260=>221|137=>224|119=>225|224=>226|225=>227|217=>228|266=>229|n=>n,fun|9=>9|4=>4|3=>3|5=>5|117=>272|116=>271|0=>0|124=>275|21=>21|105=>278|46=>221|119=>282|139=>285|138=>284|n=>n,fun|3=>1|4=>2|n=>n⟩
theorem Tryz.lays160:Go.Proofs.Lays.n160 Tryz.prog Tryz.lays160_ren:={
 mixed:=by kernel_rfl
 f119:=Tryz.func225.trans (congrArg some (by kernel_rfl))
 f120:=Tryz.func223.trans (congrArg some (by kernel_rfl))
 f137:=Tryz.func224.trans (congrArg some (by kernel_rfl))
 f151:=Tryz.func219.trans (congrArg some (by kernel_rfl))
 f152:=Tryz.func222.trans (congrArg some (by kernel_rfl))
 f160:=Tryz.func204.trans (congrArg some (by kernel_rfl))
 f197:=Tryz.func218.trans (congrArg some (by kernel_rfl))
 f217:=Tryz.func228.trans (congrArg some (by kernel_rfl))
 f224:=Tryz.func226.trans (congrArg some (by kernel_rfl))
 f225:=Tryz.func227.trans (congrArg some (by kernel_rfl))
 f227:=Tryz.func211.trans (congrArg some (by kernel_rfl))
 f228:=Tryz.func217.trans (congrArg some (by kernel_rfl))
 f231:=Tryz.func209.trans (congrArg some (by kernel_rfl))
 f232:=Tryz.func210.trans (congrArg some (by kernel_rfl))
 f233:=Tryz.func212.trans (congrArg some (by kernel_rfl))
 f234:=Tryz.func213.trans (congrArg some (by kernel_rfl))
 f235:=Tryz.func214.trans (congrArg some (by kernel_rfl))
 f236:=Tryz.func215.trans (congrArg some (by kernel_rfl))
 f260:=Tryz.func221.trans (congrArg some (by kernel_rfl))
 f266:=Tryz.func229.trans (congrArg some (by kernel_rfl))
 f271:=Tryz.func220.trans (congrArg some (by kernel_rfl))
 t0:=Tryz.underlying0
 a0:=Tryz.isAgg0
 z0:=Tryz.sizeOf0
 v0:=Tryz.zeroValue0
 t3:=Tryz.underlying3
 a3:=Tryz.isAgg3
 z3:=Tryz.sizeOf3
 v3:=Tryz.zeroValue3
 t4:=Tryz.underlying4
 a4:=Tryz.isAgg4
 z4:=Tryz.sizeOf4
 v4:=Tryz.zeroValue4
 t5:=Tryz.underlying5
 a5:=Tryz.isAgg5
 z5:=Tryz.sizeOf5
 v5:=Tryz.zeroValue5
 t9:=Tryz.underlying9
 a9:=Tryz.isAgg9
 z9:=Tryz.sizeOf9
 v9:=Tryz.zeroValue9
 t21:=Tryz.underlying21
 a21:=Tryz.isAgg21
 z21:=Tryz.sizeOf21
 v21:=Tryz.zeroValue21
 t46:=Tryz.underlying221
 a46:=Tryz.isAgg221
 z46:=Tryz.sizeOf221
 v46:=Tryz.zeroValue221
 t105:=Tryz.underlying278
 a105:=Tryz.isAgg278
 z105:=Tryz.sizeOf278
 v105:=Tryz.zeroValue278
 t116:=Tryz.underlying271
 a116:=Tryz.isAgg271
 z116:=Tryz.sizeOf271
 t117:=Tryz.underlying272
 a117:=Tryz.isAgg272
 z117:=Tryz.sizeOf272
 v117:=Tryz.zeroValue272
 t119:=Tryz.underlying282
 a119:=Tryz.isAgg282
 z119:=Tryz.sizeOf282
 t124:=Tryz.underlying275
 a124:=Tryz.isAgg275
 z124:=Tryz.sizeOf275
 v124:=Tryz.zeroValue275
 t138:=Tryz.underlying284
 a138:=Tryz.isAgg284
 z138:=Tryz.sizeOf284
 v138:=Tryz.zeroValue284
 t139:=Tryz.underlying285
 a139:=Tryz.isAgg285
 z139:=Tryz.sizeOf285
 v139:=Tryz.zeroValue285
 g3:=by kernel_rfl
 g4:=by kernel_rfl }
open Go.RowKit in
theorem Tryz.strings_Trim_one (s:ByteArray) (c:UInt8) (hc:c.toNat<128) (w:World) (hs:s.size≤9223372036854775807) :
  Calls Tryz.prog 204 #[.string s,.string ⟨#[c]⟩] w fun e w'=>e=.returned (.string ⟨(Lib.trimB s.data.toList c).toArray⟩)∧(w'=w∨w'=w.drew):=Any.strings_Trim_one Tryz.lays160 s c hc w hs
def Tryz.lays105_ren:Go.Shelf.Ren:=⟨fun|105=>198|212=>200|99=>201|165=>202|166=>154|170=>203|169=>124|263=>205|264=>206|206=>207|240=>186|241=>208|276=>195|277=>216|n=>n,fun|9=>9|3=>3|4=>4|20=>20|0=>0|46=>221|109=>260|5=>5|72=>190|76=>219|51=>34|146=>265|53=>37|148=>267|70=>188|37=>157|75=>218|127=>222|164=>255|80=>198|n=>n,fun|n=>n⟩
theorem Tryz.lays105:Go.Proofs.Lays.n105 Tryz.prog Tryz.lays105_ren:={
 mixed:=by kernel_rfl
 f99:=Tryz.func201.trans (congrArg some (by kernel_rfl))
 f105:=Tryz.func198.trans (congrArg some (by kernel_rfl))
 f165:=Tryz.func202.trans (congrArg some (by kernel_rfl))
 f166:=Tryz.func154.trans (congrArg some (by kernel_rfl))
 f169:=Tryz.func124.trans (congrArg some (by kernel_rfl))
 f170:=Tryz.func203.trans (congrArg some (by kernel_rfl))
 f206:=Tryz.func207.trans (congrArg some (by kernel_rfl))
 f212:=Tryz.func200.trans (congrArg some (by kernel_rfl))
 f240:=Tryz.func186.trans (congrArg some (by kernel_rfl))
 f241:=Tryz.func208.trans (congrArg some (by kernel_rfl))
 f263:=Tryz.func205.trans (congrArg some (by kernel_rfl))
 f264:=Tryz.func206.trans (congrArg some (by kernel_rfl))
 f276:=Tryz.func195.trans (congrArg some (by kernel_rfl))
 f277:=Tryz.func216.trans (congrArg some (by kernel_rfl))
 t0:=Tryz.underlying0
 a0:=Tryz.isAgg0
 z0:=Tryz.sizeOf0
 v0:=Tryz.zeroValue0
 t3:=Tryz.underlying3
 a3:=Tryz.isAgg3
 z3:=Tryz.sizeOf3
 v3:=Tryz.zeroValue3
 t4:=Tryz.underlying4
 a4:=Tryz.isAgg4
 z4:=Tryz.sizeOf4
 v4:=Tryz.zeroValue4
 t5:=Tryz.underlying5
 a5:=Tryz.isAgg5
 z5:=Tryz.sizeOf5
 v5:=Tryz.zeroValue5
 t9:=Tryz.underlying9
 a9:=Tryz.isAgg9
 z9:=Tryz.sizeOf9
 v9:=Tryz.zeroValue9
 t20:=Tryz.underlying20
 a20:=Tryz.isAgg20
 z20:=Tryz.sizeOf20
 v20:=Tryz.zeroValue20
 t37:=Tryz.underlying157
 a37:=Tryz.isAgg157
 z37:=Tryz.sizeOf157
 v37:=Tryz.zeroValue157
 t46:=Tryz.underlying221
 a46:=Tryz.isAgg221
 z46:=Tryz.sizeOf221
 v46:=Tryz.zeroValue221
 t51:=Tryz.underlying34
 a51:=Tryz.isAgg34
 z51:=Tryz.sizeOf34
 v51:=Tryz.zeroValue34
 t53:=Tryz.underlying37
 a53:=Tryz.isAgg37
 z53:=Tryz.sizeOf37
 v53:=Tryz.zeroValue37
 t70:=Tryz.underlying188
 a70:=Tryz.isAgg188
 z70:=Tryz.sizeOf188
 v70:=Tryz.zeroValue188
 t72:=Tryz.underlying190
 a72:=Tryz.isAgg190
 z72:=Tryz.sizeOf190
 v72:=Tryz.zeroValue190
 t75:=Tryz.underlying218
 a75:=Tryz.isAgg218
 z75:=Tryz.sizeOf218
 v75:=Tryz.zeroValue218
 t76:=Tryz.underlying219
 a76:=Tryz.isAgg219
 z76:=Tryz.sizeOf219
 v76:=Tryz.zeroValue219
 t109:=Tryz.underlying260
 a109:=Tryz.isAgg260
 z109:=Tryz.sizeOf260
 v109:=Tryz.zeroValue260
 t127:=Tryz.underlying222
 a127:=Tryz.isAgg222
 z127:=Tryz.sizeOf222
 v127:=Tryz.zeroValue222
 t146:=Tryz.underlying265
 a146:=Tryz.isAgg265
 z146:=Tryz.sizeOf265
 v146:=Tryz.zeroValue265
 t148:=Tryz.underlying267
 a148:=Tryz.isAgg267
 z148:=Tryz.sizeOf267
 v148:=Tryz.zeroValue267
 t164:=Tryz.underlying255
 a164:=Tryz.isAgg255
 z164:=Tryz.sizeOf255
 v164:=Tryz.zeroValue255 }
theorem Tryz.Builder_Extra_105:Builder.Extra Tryz.prog Tryz.lays105_ren:={
 sizeBuilder:=by kernel_rfl
 liesBuilder:=by kernel_rfl
 t5:=Tryz.underlying5
 a5:=Tryz.isAgg5
 z5:=Tryz.sizeOf5
 v5:=Tryz.zeroValue5
 infoByte:=by kernel_rfl
 cellsByte:=by kernel_rfl
 sizeByte:=by kernel_rfl
 neB5:=by decide }
open Go.RowKit Go.Lib in
theorem Tryz.strings_Repeat (s:ByteArray) (c:Nat) (w:World) (hc:c≤9223372036854775807) (hlen:s.size*c≤140737488355328) :
  Calls Tryz.prog 198 #[.string s,.int .i64 c] w fun e w'=>e=.returned (.string ⟨(Lib.repeatL s.data.toList c).toArray⟩)∧Below w.heap.size w w':=Any.strings_Repeat Tryz.lays105 Tryz.Builder_Extra_105 s c w hc hlen
end Go.Proofs
namespace Go.Proofs.YtjcbamenfaoffaaGreatDoor
open Go.RowKit
theorem blk_cell {w:World} {g:Nat} {t:TypeId} {cs:Array Value} {fr:Nat×Nat} (h:w.heap[g]?=some (.cells cs t fr)) (i:Nat):w.cell? ⟨g,i,none⟩=cs[i]?:=by simp [World.cell?,h]
theorem blk_free {w:World} {g:Nat} {t:TypeId} {cs:Array Value} (h:w.heap[g]?=some (.cells cs t (0,0))) (i:Nat):w.frozen? ⟨g,i,none⟩=false:=by simp [World.frozen?,h]
theorem blk_set {w:World} {g:Nat} {t:TypeId} {cs:Array Value} {fr:Nat×Nat} (h:w.heap[g]?=some (.cells cs t fr)) (i:Nat) (u:Value):(w.setCell ⟨g,i,none⟩ u).heap[g]?=some (.cells (cs.setIfInBounds i u) t fr):=by
 simp [World.setCell,Array.getElem?_modify,h]
theorem alloc_new (w:World) (o:Obj):(w.alloc o).heap[w.heap.size]?=some o:=by
 show (w.heap.push o)[w.heap.size]?=_
 simp
def byteV (b:UInt8):Value:=.int .u8 ((b.toNat:Nat):Int)
theorem arr_slice_h {P:Program} {t e:TypeId} {n:Nat} {i:TypeInfo} (ht:P.underlying t=some (.array n e)) (hi:P.info? e=some i) (a:Addr) (h:Nat) (h2:h≤n) (w:World) :
  (Instr.sliceAt t (.pointer (some a)) none (some (.int .i64 h)) none).run P w=.ok (.slice (some a) h n) w:=by
 simp [Instr.sliceAt,run_underlying ht,Instr.sureAddr,Instr.sliceBounds,run_sliceBound,run_sizeOf w hi,h2,Addr.add]
theorem data_len (s:ByteArray):s.data.toList.length=s.size:=by rw [Array.length_toList];rfl
theorem conv_bytes {P:Program} (w:World) {src dst e:TypeId} (hs:P.underlying src=some (.slice e)) (he:P.underlying e=some (.int .u8)) (hd:P.underlying dst=some .string) (b off cap:Nat) (l:List UInt8)
  (h:∀i (hi:i<l.length),w.cell? ⟨b,off+i,none⟩=some (.int .u8 ((l[i].toNat:Nat):Int))):(convert src dst (.slice (some ⟨b,off,none⟩) l.length cap)).run P w=.ok (.string (bs l)) w:=by
 have h1:=run_convert_bytes_arg w src e hs he b off l.length cap (l.map fun x=>((x.toNat:Nat):Int)) (by simp) (fun i hi=>by
  rw [h i hi,List.getD_eq_getElem?_getD]
  simp [hi]) dst hd
 have e1:strOfNums (l.map fun x=>((x.toNat:Nat):Int))=bs l:=by
  unfold strOfNums bs
  congr 2
  rw [List.map_map]
  conv=>rhs;rw [← List.map_id l]
  apply List.map_congr_left
  intro a _
  simp
 rw [e1] at h1
 exact h1
attribute [simp,go_sem] bs_size bs_append bs_extract put_length
@[simp,go_sem] theorem bs_get (l:List UInt8) (i:Nat) (h:i<(bs l).size):(bs l)[i]=l[i]'(by rw [bs_size] at h;exact h):=rfl
@[simp,go_sem] theorem bs_toList (l:List UInt8):(bs l).toList=l:=by rw [ByteArray.toList_eq];rfl
def Dr (w w':World):Prop:=∃n,w'=w.drewN n
theorem Dr.refl (w:World):Dr w w:=⟨0,rfl⟩
theorem Dr.one (w:World) (n:Nat):Dr w (w.drewN n):=⟨n,rfl⟩
theorem Dr.trans {w w1 w2:World} (h:Dr w w1) (g:Dr w1 w2):Dr w w2:=by
 obtain ⟨n,rfl⟩:=h
 obtain ⟨m,rfl⟩:=g
 exact ⟨n+m,by simp [World.drewN,Nat.add_assoc]⟩
theorem Dr.drewN {w w1:World} (h:Dr w w1) (n:Nat):Dr w (w1.drewN n):=h.trans ⟨n,rfl⟩
theorem Dr.drew {w w1:World} (h:Dr w w1):Dr w w1.drew:=h.trans ⟨1,rfl⟩
theorem Dr.below {w w1:World} (h:Dr w w1) (B:Nat):Below B w w1:=by
 obtain ⟨n,rfl⟩:=h
 exact ⟨rfl,rfl,rfl,Nat.le_refl _,fun _ _=>rfl⟩
theorem ret_bool {a b:Bool} (h:a=b):Ending.returned (.bool a)=.returned (.bool b):=by rw [h]
theorem ret2 {a b a' b':Value} (h1:a=a') (h2:b=b'):Ending.returned (.tuple #[a,b])=.returned (.tuple #[a',b']):=by rw [h1,h2]
theorem ret3 {a b c a' b' c':Value} (h1:a=a') (h2:b=b') (h3:c=c'):Ending.returned (.tuple #[a,b,c])=.returned (.tuple #[a',b',c']):=by rw [h1,h2,h3]
theorem v_int {k:IntKind} {a b:Int} (h:a=b):Value.int k a=.int k b:=by rw [h]
theorem v_string {a b:ByteArray} (h:a=b):Value.string a=.string b:=by rw [h]
theorem bthen {w w1 w2:World} (h:Below w.heap.size w w1) (g:Below w1.heap.size w1 w2):Below w.heap.size w w2 :=
 h.trans (g.mono h.size)
theorem wide_any (n:Int) (w:World):Calls Tryz.prog 173 #[.int .i64 n] w fun e w'=>e=.returned (.bool (decide (1≤n∧n≤8)))∧w=w':=by
 by_cases h1:1≤n
 ·by_cases h2:n≤8
  ·have e:decide (1≤n∧n≤8)=true:=decide_eq_true ⟨h1,h2⟩
   rw [e];clear e
   go_enter Tryz.func173,Tryz.ntmps173
   go_wp2
   go_ret
   exact ⟨ret_bool (by simp),rfl⟩
  ·have e:decide (1≤n∧n≤8)=false:=decide_eq_false (by omega)
   rw [e];clear e
   go_enter Tryz.func173,Tryz.ntmps173
   go_wp2
   go_ret
   exact ⟨ret_bool (by simp),rfl⟩
 ·have e:decide (1≤n∧n≤8)=false:=decide_eq_false (by omega)
  rw [e];clear e
  go_enter Tryz.func173,Tryz.ntmps173
  go_wp2
  go_ret
  exact ⟨ret_bool (by simp),rfl⟩
theorem wrap_u64 (n:Int):IntKind.u64.wrap n=n%18446744073709551616:=by simp [wrap,IntKind.bits,IntKind.signed]
theorem val_or (l:List UInt8) (b:UInt8) (h:val l<256^7):bits .or .u64 (IntKind.u64.wrap ((val l:Nat)*256)) (IntKind.u64.wrap (b.toNat:Nat))=((val (l++[b]):Nat):Int):=by
 have hb:=b.toNat_lt
 have e1:IntKind.u64.wrap (((val l:Nat):Int)*256)=((val l*256:Nat):Int):=by rw [wrap_u64];omega
 have e2:IntKind.u64.wrap ((b.toNat:Nat):Int)=((b.toNat:Nat):Int):=by rw [wrap_u64];omega
 rw [e1,e2,u64_or_nat _ _ (by omega) (by omega),nat_join 8 _ _ (by omega) (by omega),val_snoc]
theorem take_snoc (s:ByteArray) (k:Nat) (h:k<s.size):s.data.toList.take (k+1)=s.data.toList.take k++[s[k]]:=by
 rw [List.take_succ_eq_append_getElem (by simpa using h)];rfl
theorem val_take_lt (l:List UInt8) (k:Nat) (h:k≤7):val (l.take k)<256^7:=by
 refine Nat.lt_of_lt_of_le (val_lt _) (Nat.pow_le_pow_right (by decide) ?_)
 rw [List.length_take]
 omega
theorem extract_bs (s:ByteArray) (n:Nat):s.extract n s.size=bs (s.data.toList.drop n):=by
 rw [← bs_data s,bs_extract,bs_list,bs_size,List.take_of_length_le (by simp)]
theorem take_yes (s:ByteArray) (n:Nat) (w:World) (h1:1≤n) (h8:n≤8) (hs:n≤s.size) (hm:s.size≤9223372036854775807) :
  Calls Tryz.prog 189 #[.string s,.int .i64 n] w fun e w'=>e=.returned (.tuple #[.int .u64 (val (s.data.toList.take n)),.string (bs (s.data.toList.drop n)),.bool true])∧Dr w w':=by
 have hd:decide ((1:Int)≤(n:Int)∧(n:Int)≤8)=true:=decide_eq_true (by omega)
 have hw:=wide_any n
 rw [hd] at hw
 clear hd
 have HW:=Lib.hid hw;clear hw
 have hd2:decide (s.size<n)=false:=decide_eq_false (by omega)
 go_enter Tryz.func189,Tryz.ntmps189
 go_wp2_with (go_at_call 173;refine (HW.out _).mono ?_;rintro e w' ⟨rfl,rfl⟩)
 go_loop [7,8,19] (fun a _ i=>∃k:Nat,k≤n∧i=.int .i64 k∧a=.int .u64 (val (s.data.toList.take k))) (fun _ _ i=>n-(intOf i).toNat)
 case atStart=>exact ⟨0,Nat.zero_le _,rfl,rfl⟩
 case round =>
  obtain ⟨k,hk,rfl,rfl⟩:=hrel
  by_cases hlt:k<n
  ·have hv:=Lib.hid (val_or (s.data.toList.take k) (s[k]'(by omega)) (val_take_lt _ _ (by omega)))
   have ht:=Lib.hid (take_snoc s k (by omega))
   go_wp2
   go_round
   case rel=>exact ⟨k+1,by omega,by go_num,by rw [ht.out,← hv.out]⟩
   case measure=>simp [intOf];omega
  ·have hkn:=Lib.hid (show k=n by omega)
   go_wp2
   go_quiet (fail)
   go_wp2
   go_ret3
   exact ⟨ret3 (v_int (by rw [hkn.out])) (v_string (extract_bs s n)) rfl,Dr.one _ _⟩
theorem take_no (s:ByteArray) (n:Int) (w:World) (h:n<1∨8<n∨(s.size:Int)<n) :
  Calls Tryz.prog 189 #[.string s,.int .i64 n] w fun e w'=>e=.returned (.tuple #[.int .u64 0,.string (bs []),.bool false])∧w=w':=by
 by_cases hn:1≤n∧n≤8
 ·obtain ⟨k,rfl⟩:=Int.eq_ofNat_of_zero_le (show 0≤n by omega)
  have hw:=wide_any k
  rw [decide_eq_true hn] at hw
  have HW:=Lib.hid hw;clear hw
  have hd2:s.size<k:=by omega
  have hd3:decide (s.size<k)=true:=decide_eq_true hd2
  clear h hn
  go_enter Tryz.func189,Tryz.ntmps189
  go_wp2_with (go_at_call 173;refine (HW.out _).mono ?_;rintro e w' ⟨rfl,rfl⟩)
  go_ret3
  exact ⟨rfl,rfl⟩
 ·have hw:=wide_any n
  rw [decide_eq_false hn] at hw
  have HW:=Lib.hid hw;clear hw
  clear h hn
  go_enter Tryz.func189,Tryz.ntmps189
  go_wp2_with (go_at_call 173;refine (HW.out _).mono ?_;rintro e w' ⟨rfl,rfl⟩)
  go_ret3
  exact ⟨rfl,rfl⟩
def putCells (n m k:Nat):List Value:=replicate (m-k) (byteV 0)++((put n k).map byteV++replicate (8-m) (byteV 0))
theorem putCells_step {n m k:Nat} (hk:k<m):(putCells n m k).set (m-1-k) (.int .u8 ((n:Int)/2^(8*k)%256))=putCells n m (k+1):=by
 have e:(.int .u8 ((n:Int)/2^(8*k)%256):Value)=byteV (UInt8.ofNat (n/256^k)):=by
  unfold byteV
  rw [UInt8.toNat_ofNat',show (2:Int)^(8*k)=((256^k:Nat):Int) by rw [Int.pow_mul];simp]
  congr 1
 rw [e]
 have r:replicate (m-k) (byteV 0)=replicate (m-(k+1)) (byteV 0)++[byteV 0]:=by
  rw [show m-k=(m-(k+1))+1 by omega,List.replicate_succ']
 unfold putCells
 rw [r,put_cons,List.append_assoc,List.set_append,if_neg (by simp;omega)]
 simp only [List.length_replicate,show m-1-k-(m-(k+1))=0 by omega]
 simp
theorem putCells_at {n m k:Nat} (hk:k<m):∃v,(putCells n m k)[m-1-k]?=some v:=by
 refine ⟨_,List.getElem?_eq_getElem (h:=?_)⟩
 simp [putCells,put_length]
 omega
theorem putCells_end {n m:Nat} (i:Nat) (hi:i<(put n m).length):(putCells n m m)[i]?=some (.int .u8 (((put n m)[i].toNat:Nat):Int)):=by
 unfold putCells
 rw [Nat.sub_self,List.replicate_zero,List.nil_append,List.getElem?_append_left (by simpa using hi)]
 simp [byteV,List.getElem?_eq_getElem hi]
theorem info_u8:∃i,Tryz.prog.info? 5=some i:=Option.isSome_iff_exists.1 (by kernel_rfl)
set_option maxRecDepth 10000 in
theorem put_yes (n m:Nat) (w:World) (h1:1≤m) (h8:m≤8) (hn:n<18446744073709551616) :
  Calls Tryz.prog 155 #[.int .u64 n,.int .i64 m] w fun e w'=>e=.returned (.string (bs (put n m)))∧Below w.heap.size w w':=by
 have hn':=Lib.hid hn;clear hn
 have hw:=wide_any m
 rw [decide_eq_true (by omega)] at hw
 have HW:=Lib.hid hw;clear hw
 go_enter Tryz.func155,Tryz.ntmps155
 go_wp2_with (go_at_call 173;refine (HW.out _).mono ?_;rintro e w' ⟨rfl,rfl⟩)
 go_loopw [6,11] (fun _ i wr=>∃k:Nat,k≤m∧i=.int .i64 k∧wr.heap[w.heap.size]?=some (.cells (putCells n m k).toArray 247 (0,0))∧Below w.heap.size w wr) (fun _ i _=>m-(intOf i).toNat)
 case atStart =>
  refine ⟨0,Nat.zero_le _,rfl,?_,(Below.refl _ _).alloc (Nat.le_refl _) _⟩
  have e:(putCells n m 0).toArray=#[byteV 0,byteV 0,byteV 0,byteV 0,byteV 0,byteV 0,byteV 0,byteV 0]:=by
   have:putCells n m 0=replicate 8 (byteV 0):=by
    unfold putCells
    simp only [Nat.sub_zero,put,List.map_nil,List.nil_append]
    rw [List.replicate_append_replicate,show m+(8-m)=8 by omega]
   rw [this];rfl
  rw [e]
  exact alloc_new w _
 case round =>
  obtain ⟨k,hk,rfl,hcs,hb⟩:=hrel
  have hf:=blk_free hcs
  by_cases hlt:k<m
  ·obtain ⟨v,hv⟩:=putCells_at (n:=n) hlt
   have hc:=blk_cell hcs (m-1-k)
   rw [List.getElem?_toArray,hv] at hc
   have hnext:=blk_set hcs (m-1-k) (.int .u8 ((n:Int)/2^(8*k)%256))
   rw [List.setIfInBounds_toArray,putCells_step hlt] at hnext
   have HN:=Lib.hid hnext;clear hnext
   have HC:=Lib.hid hcs;clear hcs
   have HV:=Lib.hid hv;clear hv
   have hf1:=hf (m-1-k)
   clear hf
   go_wp2
   go_roundw
   case rel=>exact ⟨k+1,by omega,by go_num,HN.out,hb.setCell (Nat.le_refl _) _⟩
   case measure=>simp [intOf];omega
  ·have hkn:k=m:=by omega
   subst hkn
   have hcv:=conv_bytes wr Tryz.underlying157 Tryz.underlying5 Tryz.underlying9 w.heap.size 0 8 (put n k) (fun i hi=>by
    rw [Nat.zero_add,blk_cell hcs,List.getElem?_toArray]
    exact putCells_end i hi)
   rw [put_length] at hcv
   obtain ⟨inf,hinf⟩:=info_u8
   have hsl:=arr_slice_h Tryz.underlying247 hinf ⟨w.heap.size,0,none⟩ k h8 wr
   have HI:=Lib.hid hinf;clear hinf
   have HC:=Lib.hid hcs;clear hcs
   go_wp2
   go_ret
   exact ⟨rfl,hb⟩
theorem put_no (n:Nat) (m:Int) (w:World) (h:m<1∨8<m) :
  Calls Tryz.prog 155 #[.int .u64 n,.int .i64 m] w fun e w'=>e=.returned (.string (bs []))∧w=w':=by
 have hw:=wide_any m
 rw [decide_eq_false (by omega)] at hw
 have HW:=Lib.hid hw;clear hw h
 go_enter Tryz.func155,Tryz.ntmps155
 go_wp2_with (go_at_call 173;refine (HW.out _).mono ?_;rintro e w' ⟨rfl,rfl⟩)
 go_ret
 exact ⟨rfl,rfl⟩
theorem repeat_zero (c:Nat):Lib.repeatL [0] c=replicate c 0:=by
 induction c with
 | zero=>rfl
 | succ c ih=>rw [Lib.repeatL,ih];rfl
theorem dropWhile_nil {p:UInt8→Bool} {l:List UInt8}:l.dropWhile p=[]↔l.all p=true:=by
 induction l with
 | nil=>simp
 | cons b l ih =>
  rw [List.dropWhile_cons,List.all_cons]
  cases p b<;>simp [ih]
theorem trim_nil {l:List UInt8}:Lib.trimB l 0=[]↔l.all (·==0)=true:=by
 unfold Lib.trimB Lib.trimLeftB Lib.trimRightB
 rw [dropWhile_nil]
 simp only [List.all_reverse]
 constructor
 ·intro h
  have:(l.reverse.dropWhile (·==0))=[]:=by
   cases hd:l.reverse.dropWhile (·==0) with
   | nil=>rfl
   | cons b r =>
    have hb:=List.head_dropWhile_not (p:=(·==(0:UInt8))) (l:=l.reverse) (by rw [hd];simp)
    simp only [hd,List.head_cons] at hb
    rw [hd] at h
    simp [hb] at h
  rw [dropWhile_nil] at this
  simpa using this
 ·intro h
  have:l.reverse.dropWhile (·==0)=[]:=by rw [dropWhile_nil];simpa using h
  rw [this]
  rfl
theorem putText_yes (s:ByteArray) (m:Nat) (w:World) (hs:s.size≤m) (hm:m≤255) :
  Calls Tryz.prog 196 #[.string s,.int .i64 m] w fun e w'=>e=.returned (.tuple #[.string (bs (tput s.data.toList m)),.bool true])∧Below w.heap.size w w':=by
 obtain ⟨l,rfl⟩:∃l,s=bs l:=⟨_,(bs_data s).symm⟩
 rw [bs_size] at hs
 rw [bs_list]
 have hput:=fun w=>put_yes l.length 1 w (by omega) (by omega) (by omega)
 have HP:=Lib.hid hput;clear hput
 have hd2:decide (m<l.length)=false:=decide_eq_false (by omega)
 have hd3:decide ((255:Int)<(m:Int))=false:=decide_eq_false (by omega)
 have hrep:∀w,Calls Tryz.prog 198 #[.string ⟨#[0]⟩,.int .i64 ((m:Int)-(l.length:Int))] w fun e w'=>e=.returned (.string (bs (replicate (m-l.length) 0)))∧Below w.heap.size w w':=by
  intro w
  have h:=Tryz.strings_Repeat ⟨#[0]⟩ (m-l.length) w (by omega) (by show 1*(m-l.length)≤_;omega)
  rw [show ((m-l.length:Nat):Int)=(m:Int)-(l.length:Int) by omega,show Lib.repeatL (⟨#[0]⟩:ByteArray).data.toList (m-l.length)=replicate (m-l.length) 0 from repeat_zero _] at h
  exact h
 have HR:=Lib.hid hrep;clear hrep
 go_enter Tryz.func196,Tryz.ntmps196
 go_wp2_with fail
 refine (HP.out _).mono ?_
 rintro e w1 ⟨rfl,hb1⟩
 go_wp2_with fail
 refine (HR.out _).mono ?_
 rintro e w2 ⟨rfl,hb2⟩
 go_wp2
 go_ret2
 exact ⟨ret2 (v_string (by simp only [tput,List.append_assoc])) rfl,bthen hb1 hb2⟩
theorem putText_no (s:ByteArray) (m:Int) (w:World) (h:m<0∨255<m∨m<s.size) :
  Calls Tryz.prog 196 #[.string s,.int .i64 m] w fun e w'=>e=.returned (.tuple #[.string (bs []),.bool false])∧w=w':=by
 by_cases h1:m<0
 ·clear h
  go_enter Tryz.func196,Tryz.ntmps196
  go_wp2
  go_ret2
  exact ⟨rfl,rfl⟩
 ·obtain ⟨k,rfl⟩:=Int.eq_ofNat_of_zero_le (show 0≤m by omega)
  by_cases h2:255<k
  ·clear h
   go_enter Tryz.func196,Tryz.ntmps196
   go_wp2
   go_ret2
   exact ⟨rfl,rfl⟩
  ·have h3:k<s.size:=by omega
   have hd:decide (k<s.size)=true:=decide_eq_true h3
   clear h
   go_enter Tryz.func196,Tryz.ntmps196
   go_wp2
   go_ret2
   exact ⟨rfl,rfl⟩
theorem takeText_any (s:ByteArray) (m:Nat) (w:World) (hm:m≤255) (hs:s.size≤9223372036854775000) (t r:List UInt8) (h:ttake s.data.toList m=some (t,r)) :
  Calls Tryz.prog 199 #[.string s,.int .i64 m] w fun e w'=>e=.returned (.tuple #[.string (bs t),.string (bs r),.bool true])∧Dr w w':=by
 obtain ⟨l,rfl⟩:∃l,s=bs l:=⟨_,(bs_data s).symm⟩
 rw [bs_list] at h
 rw [bs_size] at hs
 cases l with
 | nil=>simp [ttake] at h
 | cons n rest =>
  have h':=h
  simp only [ttake] at h'
  split at h'
  ·rename_i hc
   obtain ⟨c1,c2,c3⟩:=hc
   simp only [injEq,Prod.mk.injEq] at h'
   obtain ⟨rfl,rfl⟩:=h'
   rw [List.length_cons] at hs
   have htake:=fun w=>take_yes (bs (n::rest)) 1 w (by omega) (by omega) (by rw [bs_size,List.length_cons];omega) (by rw [bs_size,List.length_cons];omega)
   simp only [bs_list,List.take_succ_cons,List.take_zero,List.drop_succ_cons,List.drop_zero] at htake
   have e1:val [n]=n.toNat:=by simp [val]
   rw [e1] at htake
   have HT:=Lib.hid htake;clear htake e1 h
   have htrim:=fun w=>Tryz.strings_Trim_one (bs ((rest.take m).drop n.toNat)) 0 (by decide) w (by rw [bs_size];simp;omega)
   rw [bs_list,trim_nil.2 c3,List.drop_take] at htrim
   have HR:=Lib.hid htrim;clear htrim c3
   have hn:=n.toNat_lt
   have hd1:decide ((m:Int)<(n.toNat:Int))=false:=decide_eq_false (by omega)
   go_enter Tryz.func199,Tryz.ntmps199
   go_wp2_with fail
   refine (HT.out _).mono ?_
   rintro e w1 ⟨rfl,hb1⟩
   go_wp2_with fail
   go_quiet (fail)
   go_wp2_with fail
   refine (HR.out _).mono ?_
   rintro e w2 ⟨rfl,hb2⟩
   go_wp2_with fail
   go_quiet (fail)
   go_wp2
   go_ret3
   refine ⟨ret3 rfl (v_string (by rw [List.take_of_length_le (by rw [List.length_drop];omega)])) rfl,?_⟩
   rcases hb2 with rfl|rfl
   ·exact (hb1.drewN _).drewN _
   ·exact ((hb1.drewN _).drew).drewN _
  ·cases h'
theorem takeText_none (s:ByteArray) (m:Int) (w:World) (hs:s.size≤9223372036854775000) (h:m<0∨255<m∨ttake s.data.toList m.toNat=none) :
  Calls Tryz.prog 199 #[.string s,.int .i64 m] w fun e w'=>e=.returned (.tuple #[.string (bs []),.string (bs []),.bool false])∧Dr w w':=by
 obtain ⟨l,rfl⟩:∃l,s=bs l:=⟨_,(bs_data s).symm⟩
 rw [bs_list] at h
 rw [bs_size] at hs
 cases l with
 | nil =>
  have htake:=fun w=>take_no (bs []) 1 w (.inr (.inr (by decide)))
  have HT:=Lib.hid htake;clear htake h
  go_enter Tryz.func199,Tryz.ntmps199
  go_wp2_with fail
  refine (HT.out _).mono ?_
  rintro e w1 ⟨rfl,rfl⟩
  go_wp2
  go_ret3
  exact ⟨rfl,Dr.refl _⟩
 | cons n rest =>
  rw [List.length_cons] at hs
  have hn:=n.toNat_lt
  have htake:=fun w=>take_yes (bs (n::rest)) 1 w (by omega) (by omega) (by rw [bs_size,List.length_cons];omega) (by rw [bs_size,List.length_cons];omega)
  simp only [bs_list,List.take_succ_cons,List.take_zero,List.drop_succ_cons,List.drop_zero] at htake
  have e1:val [n]=n.toNat:=by simp [val]
  rw [e1] at htake
  have HT:=Lib.hid htake;clear htake e1
  by_cases h1:m<0
  ·clear h
   go_enter Tryz.func199,Tryz.ntmps199
   go_wp2_with fail
   refine (HT.out _).mono ?_
   rintro e w1 ⟨rfl,hb1⟩
   go_wp2
   go_ret3
   exact ⟨rfl,hb1⟩
  obtain ⟨k,rfl⟩:=Int.eq_ofNat_of_zero_le (show 0≤m by omega)
  by_cases h2:255<k
  ·clear h
   go_enter Tryz.func199,Tryz.ntmps199
   go_wp2_with fail
   refine (HT.out _).mono ?_
   rintro e w1 ⟨rfl,hb1⟩
   go_wp2
   go_ret3
   exact ⟨rfl,hb1⟩
  have h3:ttake (n::rest) k=none:=by
   rcases h with h|h|h
   ·omega
   ·omega
   ·simpa using h
  clear h
  by_cases h5:k<n.toNat
  ·have H3:=Lib.hid h3;clear h3
   have hd1:decide (k<n.toNat)=true:=decide_eq_true (by omega)
   go_enter Tryz.func199,Tryz.ntmps199
   go_wp2_with fail
   refine (HT.out _).mono ?_
   rintro e w1 ⟨rfl,hb1⟩
   go_wp2
   go_ret3
   exact ⟨rfl,hb1⟩
  by_cases h4:rest.length<k
  ·have H3:=Lib.hid h3;clear h3
   go_enter Tryz.func199,Tryz.ntmps199
   go_wp2_with fail
   refine (HT.out _).mono ?_
   rintro e w1 ⟨rfl,hb1⟩
   go_wp2
   go_ret3
   exact ⟨rfl,hb1⟩
  ·have hnot:¬(((rest.take k).drop n.toNat).all (·==0)=true):=by
    intro hc
    simp only [ttake] at h3
    rw [if_pos ⟨by omega,by omega,hc⟩] at h3
    cases h3
   rw [← trim_nil] at hnot
   have htrim:=fun w=>Tryz.strings_Trim_one (bs ((rest.take k).drop n.toNat)) 0 (by decide) w (by rw [bs_size];simp;omega)
   rw [bs_list] at htrim
   obtain ⟨q,hq⟩:∃q,q=Lib.trimB ((rest.take k).drop n.toNat) 0:=⟨_,rfl⟩
   rw [← hq] at htrim hnot
   rw [List.drop_take] at htrim
   have hq1:(q==[])=false:=beq_eq_false_iff_ne.2 hnot
   have hq2:q.isEmpty=false:=by cases q with|nil=>exact absurd rfl hnot|cons=>rfl
   have HR:=Lib.hid htrim;clear htrim
   have HQ:=Lib.hid hq;clear hq
   have H3:=Lib.hid h3;clear h3
   have HN:=Lib.hid hnot;clear hnot
   go_enter Tryz.func199,Tryz.ntmps199
   go_wp2_with fail
   refine (HT.out _).mono ?_
   rintro e w1 ⟨rfl,hb1⟩
   go_wp2_with fail
   go_quiet (fail)
   go_wp2_with fail
   refine (HR.out _).mono ?_
   rintro e w2 ⟨rfl,hb2⟩
   go_wp2
   go_ret3
   refine ⟨rfl,?_⟩
   rcases hb2 with rfl|rfl
   ·exact hb1.drewN _
   ·exact (hb1.drewN _).drew
def putZ (n:Nat) (m:Int):List UInt8:=if 1≤m∧m≤8 then put n m.toNat else []
def tkB (s:List UInt8) (m:Int):Bool:=decide (1≤m∧m≤8∧m≤s.length)
def tkN (s:List UInt8) (m:Int):Nat:=if 1≤m∧m≤8∧m≤s.length then val (s.take m.toNat) else 0
def tkR (s:List UInt8) (m:Int):List UInt8:=if 1≤m∧m≤8∧m≤s.length then s.drop m.toNat else []
def ptB (s:List UInt8) (m:Int):Bool:=decide (0≤m∧m≤255∧s.length≤m)
def ptS (s:List UInt8) (m:Int):List UInt8:=if 0≤m∧m≤255∧s.length≤m then tput s m.toNat else []
def ttO (s:List UInt8) (m:Int):Option (List UInt8×List UInt8):=if 0≤m∧m≤255 then ttake s m.toNat else none
def ttT (s:List UInt8) (m:Int):List UInt8:=match ttO s m with|some x=>x.1|none=>[]
def ttR (s:List UInt8) (m:Int):List UInt8:=match ttO s m with|some x=>x.2|none=>[]
def ttB (s:List UInt8) (m:Int):Bool:=(ttO s m).isSome
theorem put_all (n:Nat) (m:Int) (w:World) (hn:n<18446744073709551616) :
  Calls Tryz.prog 155 #[.int .u64 n,.int .i64 m] w fun e w'=>e=.returned (.string (bs (putZ n m)))∧Below w.heap.size w w':=by
 by_cases h:1≤m∧m≤8
 ·obtain ⟨k,rfl⟩:=Int.eq_ofNat_of_zero_le (show 0≤m by omega)
  rw [putZ,if_pos h]
  exact put_yes n k w (by omega) (by omega) hn
 ·rw [putZ,if_neg h]
  exact (put_no n m w (by omega)).mono fun e w' ⟨he,hw⟩=>⟨he,hw▸Below.refl _ _⟩
theorem take_all (s:ByteArray) (m:Int) (w:World) (hs:s.size≤9223372036854775807) :
  Calls Tryz.prog 189 #[.string s,.int .i64 m] w fun e w'=>e=.returned (.tuple #[.int .u64 (tkN s.data.toList m),.string (bs (tkR s.data.toList m)),.bool (tkB s.data.toList m)])∧Dr w w':=by
 by_cases h:1≤m∧m≤8∧m≤s.data.toList.length
 ·rw [tkN,tkR,tkB,if_pos h,if_pos h,decide_eq_true h]
  rw [data_len] at h
  obtain ⟨k,rfl⟩:=Int.eq_ofNat_of_zero_le (show 0≤m by omega)
  exact take_yes s k w (by omega) (by omega) (by omega) hs
 ·rw [tkN,tkR,tkB,if_neg h,if_neg h,decide_eq_false h]
  rw [data_len] at h
  exact (take_no s m w (by omega)).mono fun e w' ⟨he,hw⟩=>⟨he,hw▸Dr.refl _⟩
theorem putText_all (s:ByteArray) (m:Int) (w:World) :
  Calls Tryz.prog 196 #[.string s,.int .i64 m] w fun e w'=>e=.returned (.tuple #[.string (bs (ptS s.data.toList m)),.bool (ptB s.data.toList m)])∧Below w.heap.size w w':=by
 by_cases h:0≤m∧m≤255∧s.data.toList.length≤m
 ·rw [ptS,ptB,if_pos h,decide_eq_true h]
  rw [data_len] at h
  obtain ⟨k,rfl⟩:=Int.eq_ofNat_of_zero_le h.1
  exact putText_yes s k w (by omega) (by omega)
 ·rw [ptS,ptB,if_neg h,decide_eq_false h]
  rw [data_len] at h
  exact (putText_no s m w (by omega)).mono fun e w' ⟨he,hw⟩=>⟨he,hw▸Below.refl _ _⟩
theorem takeText_all (s:ByteArray) (m:Int) (w:World) (hs:s.size≤9223372036854775000) :
  Calls Tryz.prog 199 #[.string s,.int .i64 m] w fun e w'=>e=.returned (.tuple #[.string (bs (ttT s.data.toList m)),.string (bs (ttR s.data.toList m)),.bool (ttB s.data.toList m)])∧Dr w w':=by
 by_cases h:0≤m∧m≤255
 ·obtain ⟨k,rfl⟩:=Int.eq_ofNat_of_zero_le h.1
  cases ht:ttake s.data.toList k with
  | some x =>
   have e:ttO s.data.toList k=some x:=by rw [ttO,if_pos h];exact ht
   rw [ttT,ttR,ttB,e]
   exact takeText_any s k w (by omega) hs x.1 x.2 ht
  | none =>
   have e:ttO s.data.toList k=none:=by rw [ttO,if_pos h];exact ht
   rw [ttT,ttR,ttB,e]
   exact takeText_none s k w hs (.inr (.inr ht))
 ·have e:ttO s.data.toList m=none:=by rw [ttO,if_neg h]
  rw [ttT,ttR,ttB,e]
  exact takeText_none s m w hs (by omega)
end Go.Proofs.YtjcbamenfaoffaaGreatDoor
namespace Go.Proofs.YtjcbamenfaoffaaGreatDoor
open Go.Shelf Go.RowKit
theorem equalIn_ptr {P:Program} (D:Nat) {t e:TypeId} (ht:P.underlying t=some (.pointer e)) (p:Option Addr) (w:World):(Op.equalIn (D+1) t (.pointer p) (.pointer none)).run P w=.ok p.isNone w:=by
 cases p<;>simp [Op.equalIn,run_underlying ht]
theorem equalIn_self {P:Program} (D:Nat) {t e:TypeId} {n:Nat} (ht:P.underlying t=some (.pointer e)) (hn:∀w,(sizeOf e).run P w=.ok n w) (h0:n≠0) (a:Addr) (w:World):(Op.equalIn (D+1) t (.pointer (some a)) (.pointer (some a))).run P w=.ok true w:=by
 simp [Op.equalIn,run_underlying ht,hn,h0,sameAddr]
theorem equal_ptr {P:Program} {t e:TypeId} (ht:P.underlying t=some (.pointer e)) (p:Option Addr) (w:World):(Op.equal t (.pointer p) (.pointer none)).run P w=.ok p.isNone w :=
 equalIn_ptr 9999 ht p w
theorem equal_self {P:Program} {t e:TypeId} {n:Nat} (ht:P.underlying t=some (.pointer e)) (hn:∀w,(sizeOf e).run P w=.ok n w) (h0:n≠0) (a:Addr) (w:World):(Op.equal t (.pointer (some a)) (.pointer (some a))).run P w=.ok true w :=
 equalIn_self 9999 ht hn h0 a w
set_option maxHeartbeats 1000000 in
set_option maxRecDepth 100000 in
theorem copyCheck_used (g:Nat) (w:World) (h0:w.cell? ⟨g,0,none⟩=some (.pointer (some ⟨g,0,none⟩))) :
  Calls Tryz.prog 186 #[.pointer (some ⟨g,0,none⟩)] w fun e w'=>e=.returned (.tuple #[])∧w'=w:=by
 go_enter Tryz.func186,Tryz.ntmps186
 have e1:=equal_ptr (P:=Tryz.prog) Tryz.underlying188 (some ⟨g,0,none⟩) w
 have e2:=equal_self (P:=Tryz.prog) Tryz.underlying188 Tryz.sizeOf190 (by decide) ⟨g,0,none⟩ w
 have e3:(binOp .neq 188 (.pointer (some ⟨g,0,none⟩)) (.pointer (some ⟨g,0,none⟩))).run Tryz.prog w=.ok (.bool false) w:=by simp [binOp,e2]
 go_wp2
 go_end0
 exact ⟨rfl,rfl⟩
class BldT (T:TypeId):Prop where
 fresh:∀(g:Nat) (w:World),w.cell? ⟨g,0,none⟩=some (.pointer none)→w.shape? g=some (T,2)→w.frozen? ⟨g,0,none⟩=false →
  Calls Tryz.prog 186 #[.pointer (some ⟨g,0,none⟩)] w fun e w'=>e=.returned (.tuple #[])∧w'=w.setCell ⟨g,0,none⟩ (.pointer (some ⟨g,0,none⟩))
set_option maxHeartbeats 1000000 in
set_option maxRecDepth 100000 in
instance:BldT 190:=⟨fun g w h0 hsh hfz=>by
 go_enter Tryz.func186,Tryz.ntmps186
 have e1:=equal_ptr (P:=Tryz.prog) Tryz.underlying188 none w
 have hj:Tryz.prog.info? 190=some Tryz.t190:=by kernel_rfl
 go_wp2
 rw [Lib.run_to_unsafe w ⟨g,0,none⟩ Tryz.underlying188 Tryz.underlying255 hj (by decide) hsh (Nat.zero_lt_succ 1)]
 simp only [Result.andThen]
 rw [Oper.upon_value]
 go_wp2
 have hne:(callFunc 195 #[.pointer (some ⟨g,0,none⟩)]).run Tryz.prog w=.ok (.value (.pointer (some ⟨g,0,none⟩))) w:=by kernel_rfl
 rw [hne]
 rw [Oper.upon_value]
 go_wp2
 rw [Lib.run_from_unsafe w ⟨g,0,none⟩ Tryz.underlying255 Tryz.underlying188 hj hsh (by kernel_rfl)]
 simp only [Result.andThen]
 rw [Oper.upon_value]
 go_wp2
 go_end0
 exact ⟨rfl,rfl⟩⟩
set_option maxHeartbeats 1000000 in
set_option maxRecDepth 100000 in
instance:BldT 192:=⟨fun g w h0 hsh hfz=>by
 go_enter Tryz.func186,Tryz.ntmps186
 have e1:=equal_ptr (P:=Tryz.prog) Tryz.underlying188 none w
 have hj:Tryz.prog.info? 190=some Tryz.t190:=by kernel_rfl
 go_wp2
 rw [Lib.run_to_unsafe w ⟨g,0,none⟩ Tryz.underlying188 Tryz.underlying255 hj (by decide) hsh (Nat.zero_lt_succ 1)]
 simp only [Result.andThen]
 rw [Oper.upon_value]
 go_wp2
 have hne:(callFunc 195 #[.pointer (some ⟨g,0,none⟩)]).run Tryz.prog w=.ok (.value (.pointer (some ⟨g,0,none⟩))) w:=by kernel_rfl
 rw [hne]
 rw [Oper.upon_value]
 go_wp2
 rw [Lib.run_from_unsafe w ⟨g,0,none⟩ Tryz.underlying255 Tryz.underlying188 hj hsh (by kernel_rfl)]
 simp only [Result.andThen]
 rw [Oper.upon_value]
 go_wp2
 go_end0
 exact ⟨rfl,rfl⟩⟩
set_option maxHeartbeats 1000000 in
set_option maxRecDepth 100000 in
theorem bldString_row {T0:TypeId} (g g1 cap:Nat) (p:Value) (cur:Array Value) (l:Str) (w:World) (hbk:w.heap[g]?=some (.cells #[p,.slice (some ⟨g1,0,none⟩) l.length cap] T0 (0,0))) (h0:l≠[]) (hg:w.heap[g1]?=some (.cells cur 5 (0,0))) (hnc:l.length≤cap) (hcm:cap≤maxLen) (hcs:cur.size=cap) (ht:cur.toList.take l.length=Lib.byteCells l) :
  Calls Tryz.prog 124 #[.pointer (some ⟨g,0,none⟩)] w fun e w'=>e=.returned (.string (bs l))∧w'=w.drew.freeze ⟨g1,0,none⟩ l.length:=by
 have hl0:l.length≠0:=by simpa using h0
 have c1:w.drew.cell? ⟨g,1,none⟩=some (.slice (some ⟨g1,0,none⟩) l.length cap):=by
  have:w.drew.heap[g]?=some (.cells #[p,.slice (some ⟨g1,0,none⟩) l.length cap] T0 (0,0)):=hbk
  rw [Lib.cell_of_heap this];rfl
 have hSD:(Builtin.unsafeSliceData_ #[157] 222 #[.slice (some ⟨g1,0,none⟩) l.length cap]).run Tryz.prog w.drew=.ok (.pointer (some ⟨g1,0,none⟩)) w.drew :=
  Lib.run_unsafeSliceData_row _ _ _ _ _ _ (by omega)
 have hUS:(Builtin.unsafeString_ #[222,3] 9 #[.pointer (some ⟨g1,0,none⟩),.int .i64 l.length]).run Tryz.prog w.drew=.ok (.string (bs l)) (w.drew.freeze ⟨g1,0,none⟩ l.length):=by
  refine Lib.run_unsafeString_row w.drew 222 3 9 5 Tryz.underlying222 (by kernel_rfl) g1 cur.size (by have hg':w.drew.heap[g1]?=some (.cells cur 5 (0,0)):=hg;simp [World.shape?,hg']) l h0 (by omega) (by unfold maxLen at hcm;omega) ?_
  intro j x hx
  have hg':w.drew.heap[g1]?=some (.cells cur 5 (0,0)):=hg
  have hj:=(List.getElem?_eq_some_iff.1 hx).1
  have e2:(Lib.byteCells l)[j]?=some (.int .u8 x.toNat):=by simp [Lib.byteCells,hx]
  rw [← ht,List.getElem?_take_of_lt hj] at e2
  rw [addz,Nat.zero_add]
  simp [World.cell?,hg']
  simpa using e2
 clear hl0
 have mixed:Tryz.prog.follows Departure.mixedOrders=true:=by kernel_rfl
 go_enter Tryz.func124,Tryz.ntmps124
 go_wp2
 go_region_o
 all_goals (go_wp2;go_ret;exact ⟨rfl,rfl⟩)
set_option maxHeartbeats 1000000 in
set_option maxRecDepth 100000 in
theorem bldString_nil {T0:TypeId} (g:Nat) (p:Value) (w:World) (hbk:w.heap[g]?=some (.cells #[p,.slice none 0 0] T0 (0,0))) :
  Calls Tryz.prog 124 #[.pointer (some ⟨g,0,none⟩)] w fun e w'=>e=.returned (.string (bs []))∧w'=w.drew:=by
 have hUS:(Builtin.unsafeString_ #[222,3] 9 #[.pointer none,.int .i64 0]).run Tryz.prog w.drew=.ok (.string (bs [])) w.drew:=Lib.run_unsafeString_none _ _ _ _ _
 have c1:w.drew.cell? ⟨g,1,none⟩=some (.slice none 0 0):=by
  have:w.drew.heap[g]?=some (.cells #[p,.slice none 0 0] T0 (0,0)):=hbk
  rw [Lib.cell_of_heap this];rfl
 have hSD:(Builtin.unsafeSliceData_ #[157] 222 #[.slice none 0 0]).run Tryz.prog w.drew=.ok (.pointer none) w.drew:=rfl
 have mixed:Tryz.prog.follows Departure.mixedOrders=true:=by kernel_rfl
 go_enter Tryz.func124,Tryz.ntmps124
 go_wp2
 go_region_o
 all_goals (go_wp2;go_ret;exact ⟨rfl,rfl⟩)
set_option maxHeartbeats 1000000 in
set_option maxRecDepth 100000 in
theorem bldString_room {T0:TypeId} (g g1 cap:Nat) (p:Value) (w:World) (hc0:cap≠0) (hbk:w.heap[g]?=some (.cells #[p,.slice (some ⟨g1,0,none⟩) 0 cap] T0 (0,0))) :
  Calls Tryz.prog 124 #[.pointer (some ⟨g,0,none⟩)] w fun e w'=>e=.returned (.string (bs []))∧w'=w.drew:=by
 have hUS:(Builtin.unsafeString_ #[222,3] 9 #[.pointer (some ⟨g1,0,none⟩),.int .i64 0]).run Tryz.prog w.drew=.ok (.string (bs [])) w.drew:=Lib.run_unsafeString_none _ _ _ _ _
 have c1:w.drew.cell? ⟨g,1,none⟩=some (.slice (some ⟨g1,0,none⟩) 0 cap):=by
  have:w.drew.heap[g]?=some (.cells #[p,.slice (some ⟨g1,0,none⟩) 0 cap] T0 (0,0)):=hbk
  rw [Lib.cell_of_heap this];rfl
 have hSD:(Builtin.unsafeSliceData_ #[157] 222 #[.slice (some ⟨g1,0,none⟩) 0 cap]).run Tryz.prog w.drew=.ok (.pointer (some ⟨g1,0,none⟩)) w.drew :=
  Lib.run_unsafeSliceData_row _ _ _ _ _ _ hc0
 clear hc0
 have mixed:Tryz.prog.follows Departure.mixedOrders=true:=by kernel_rfl
 go_enter Tryz.func124,Tryz.ntmps124
 go_wp2
 go_region_o
 all_goals (go_wp2;go_ret;exact ⟨rfl,rfl⟩)
set_option maxHeartbeats 1000000 in
set_option maxRecDepth 100000 in
theorem bldString_noroom {T0:TypeId} (g g1:Nat) (p:Value) (cur:Array Value) (w:World) (hbk:w.heap[g]?=some (.cells #[p,.slice (some ⟨g1,0,none⟩) 0 0] T0 (0,0))) (hg:w.heap[g1]?=some (.cells cur 5 (0,0))) :
  Calls Tryz.prog 124 #[.pointer (some ⟨g,0,none⟩)] w fun e w'=>e=.returned (.string (bs []))∧w'=w.drew.alloc (.view ⟨g1,0,none⟩ 5):=by
 have hlt:g<w.heap.size:=(Array.getElem?_eq_some_iff.1 hbk).1
 have hUS:∀p W,(Builtin.unsafeString_ #[222,3] 9 #[.pointer p,.int .i64 0]).run Tryz.prog W=.ok (.string (bs [])) W:=fun p W=>Lib.run_unsafeString_none _ _ _ _ _
 have c1:w.drew.cell? ⟨g,1,none⟩=some (.slice (some ⟨g1,0,none⟩) 0 0):=by
  have:w.drew.heap[g]?=some (.cells #[p,.slice (some ⟨g1,0,none⟩) 0 0] T0 (0,0)):=hbk
  rw [Lib.cell_of_heap this];rfl
 have hSD:(Builtin.unsafeSliceData_ #[157] 222 #[.slice (some ⟨g1,0,none⟩) 0 0]).run Tryz.prog w.drew=.ok (.pointer (some ⟨w.drew.heap.size,0,none⟩)) (w.drew.alloc (.view ⟨g1,0,none⟩ 5)) :=
  Lib.run_unsafeSliceData_zero w.drew _ _ 5 Tryz.underlying222 ⟨g1,0,none⟩ 0 (5,cur.size) (by have hg':w.drew.heap[g1]?=some (.cells cur 5 (0,0)):=hg;simp [World.shape?,hg'])
 have c2:(w.drew.alloc (.view ⟨g1,0,none⟩ 5)).cell? ⟨g,1,none⟩=some (.slice (some ⟨g1,0,none⟩) 0 0):=by
  have:(w.drew.alloc (.view ⟨g1,0,none⟩ 5)).heap[g]?=_:=(Lib.alloc_old w.drew _ g hlt).trans hbk
  rw [Lib.cell_of_heap this];rfl
 have c3:(w.alloc (.view ⟨g1,0,none⟩ 5)).drew.cell? ⟨g,1,none⟩=some (.slice (some ⟨g1,0,none⟩) 0 0):=c2
 have c0:w.cell? ⟨g,1,none⟩=some (.slice (some ⟨g1,0,none⟩) 0 0):=c1
 have mixed:Tryz.prog.follows Departure.mixedOrders=true:=by kernel_rfl
 go_enter Tryz.func124,Tryz.ntmps124
 go_wp2
 go_region_o
 all_goals (go_wp2;go_ret;exact ⟨rfl,rfl⟩)
end Go.Proofs.YtjcbamenfaoffaaGreatDoor
namespace Go.Proofs.YtjcbamenfaoffaaGreatDoor
open Go.RowKit
def F_strings_Builder_copyCheck (x0:Unit×List Int):Option (Unit×List Int):=some x0
def byS (xs:List Int):Str:=xs.map fun i=>UInt8.ofNat i.toNat
def F_strings_Builder_String (x0:Unit×List Int):Option Str:=some (byS x0.2)
theorem byS_byI (x:Str):byS (byI x)=x:=by
 simp only [byS,byI,List.map_map]
 conv=>rhs;rw [← List.map_id x]
 apply List.map_congr_left
 intro a _
 simp
section
variable {P:Program} {φ:Nat→Value} {M:Fz}
theorem rep_bytes:∀{vs:List Value} {xs:List Int},RepL (RepC P φ (.int .u8) M) vs xs→vs=Lib.byteCells (byS xs)
 | vs,[],h=>h
 | vs,x::xs,⟨c,r,e,h1,h2⟩=>by
  obtain ⟨rfl,h3⟩:=h1
  have h4:0≤x∧x<256:=by simpa [IntKind.has,IntKind.min,IntKind.max,IntKind.signed,IntKind.bits,Int.le_iff_lt_add_one] using h3
  rw [e,rep_bytes h2]
  have:((UInt8.ofNat x.toNat).toNat:Int)=x:=by
   rw [UInt8.toNat_ofNat',Nat.mod_eq_of_lt (by omega)];omega
  simp [Lib.byteCells,byS]
  omega
end
theorem bld_open {T0:TypeId} {n0:Nat} {b:Base n0} {M:Fz} {φ:Nat→Value} {ξ:Nat→Option Nat} {w:World} {H:AStore} {i j:Nat} {xs:List Int} (hc:Core Tryz.prog b M φ ξ H w) (h1:(i,.var T0 (.st (.prod .oref .ref)) ((i:Nat),(j:Nat)))∈H) (h2:(j,.row 5 (.int .u8) xs)∈H) :
  ∃g v,φ i=.pointer (some ⟨g,0,none⟩)∧ξ i=some g∧w.heap[g]?=some (.cells #[v,φ j] T0 (0,0))∧(v=.pointer none∨v=.pointer (some ⟨g,0,none⟩)):=by
 obtain ⟨_,g,c,e1,e2,e3,c1,c2,e4,e5,e6⟩:=hc.items _ _ h1
 obtain ⟨v,_,rfl,e7⟩:=e5
 obtain ⟨rfl,_⟩:=e6
 have:c=#[v,φ j]:=by apply Array.ext';rw [e4];rfl
 subst this
 refine ⟨g,v,e1,e2,e3,?_⟩
 rw [e1] at e7
 exact e7
theorem bld_ren {n0 N:Nat} {b:Base n0} {M:Fz} {φ:Nat→Value} {ξ:Nat→Option Nat} {w:World} {T e:TypeId} {S:Sh} {x:S.ty} {xs:List Int} (hn:n0=2) (hN:2≤N) (hS:S=.st (.prod .oref .ref)) (hx:HEq x ((0:Nat),(1:Nat))) (hc:Core Tryz.prog b M φ ξ [(0,.var T S x),(1,.row e (.int .u8) xs)] w) :
  ∃φ' ξ',Core Tryz.prog b M φ' ξ' [(0,.var T (.st (.prod .oref .ref)) ((0:Nat),N)),(N,.row e (.int .u8) xs)] w:=by
 subst hS
 have hx:=eq_of_heq hx
 subst hx hn
 have hne:∀m,m<2→¬N=m:=fun m hm=>by omega
 have nb:∀m,m<2→Nat.beq N m=false:=fun m hm=>by
  cases h:Nat.beq N m with
  | false=>rfl
  | true=>exact absurd (Nat.eq_of_beq_eq_true h) (hne m hm)
 have hL:freshB 2 N ([]:AEnv) ([(0,AItem.var T (.st (.prod .oref .ref)) ((0:Nat),(1:Nat)))]++(1,AItem.row e (.int .u8) xs)::[])=true:=by
  simp [freshB,envLabs,storeLabs,AItem.labs,Sh.labs,Sh.pers,hN,nb 0,nb 1]
 have hh:=hc.items 1 _ (List.mem_cons_of_mem _ (List.mem_cons_self ..))
 have c1:=Core.repl (ρ:=[]) (H1:=[(0,AItem.var T (.st (.prod .oref .ref)) ((0:Nat),(1:Nat)))]) (H2:=[]) (N:=N) (it:=.row e (.int .u8) xs) (it':=.row e (.int .u8) xs) (u:=φ 1) (o:=ξ 1) hc hL (w':=w) rfl rfl rfl (Nat.le_refl _) (fun _ _ _=>rfl) (held_labs (fun l hl=>by cases hl) hh) (fun g hg=>.inr hg)
 have c2:=Core.renAll (f:=renF 1 N) c1 rfl (fun l=>by
  unfold renF
  split
  ·rename_i e
   have e:=Nat.eq_of_beq_eq_true e
   subst e
   rw [upd_same,upd_ne (by omega)]
  ·rfl)
 refine ⟨_,_,c2.perm ?_⟩
 simp only [List.append_nil,renHs,renI]
 exact List.Perm.swap _ _ _
theorem W_strings_Builder_copyCheck {T0:TypeId} [BldT T0] {x0 y:Unit×List Int} (F0:F_strings_Builder_copyCheck x0=some y):Mut Tryz.prog 186 2 [.ptr 0 [] 0] [(0,.var T0 (.st (.prod .oref .ref)) ((0:Nat),(1:Nat))),(1,.row 5 (.int .u8) x0.2)] (.tup []) [(0,.var T0 (.st (.prod .oref .ref)) ((0:Nat),(1001:Nat))),(1001,.row 5 (.int .u8) y.2)]:=by
 obtain rfl:=inj F0
 refine ⟨Tryz.call186,fun b ξ us hc hr=>?_⟩
 obtain ⟨u,r,rfl,⟨g',hg',rfl⟩,hr2⟩:=hr
 have hr2:r=[]:=hr2
 subst hr2
 obtain ⟨g,v,e1,e2,e3,e4⟩:=bld_open hc (i:=0) (j:=1) (List.mem_cons_self ..) (List.mem_cons_of_mem _ (List.mem_cons_self ..))
 rw [e1] at hg'
 obtain rfl:g=g':=by simpa [blkOf] using hg'
 have fin:∀{w':World},Core Tryz.prog b b.M b.φ0 ξ [(0,.var T0 (.st (.prod .oref .ref)) ((0:Nat),(1:Nat))),(1,.row 5 (.int .u8) x0.2)] w'→∃M' φ' ξ' v,Ending.returned (.tuple #[])=.returned v∧Core Tryz.prog b M' φ' ξ' [(0,.var T0 (.st (.prod .oref .ref)) ((0:Nat),(1001:Nat))),(1001,.row 5 (.int .u8) x0.2)] w'∧RelV Tryz.prog M' φ' (.tup []) v:=by
  intro w' h
  obtain ⟨φ',ξ',h2⟩:=bld_ren (N:=1001) rfl (by omega) rfl HEq.rfl h
  exact ⟨_,φ',ξ',_,rfl,h2,[],rfl,rfl⟩
 rcases e4 with rfl|rfl
 ·have c0:b.w.cell? ⟨g,0,none⟩=some (.pointer none):=by rw [Lib.cell_of_heap e3];rfl
  refine (BldT.fresh (T:=T0) g b.w c0 (by simp [World.shape?,e3]) (by simp [World.frozen?,e3])).mono ?_
  rintro e w' ⟨rfl,rfl⟩
  refine fin (Core.write (H1:=[]) hc e2 rfl rfl rfl (by simp) (fun k hk=>Below.heap_setCell _ _ _ _ (by simpa using hk)) ⟨rfl,g,#[.pointer (some ⟨g,0,none⟩),b.φ0 1],e1,e2,?_,?_⟩)
  ·simp [World.setCell,Array.getElem?_modify,e3]
  ·obtain ⟨_,_,_,_,_,_,_,_,_,_,q⟩:=hc.items 0 _ (List.mem_cons_self ..)
   exact ⟨[.pointer (some ⟨g,0,none⟩)],[b.φ0 1],rfl,⟨_,rfl,rfl,.inr e1.symm⟩,rfl,q.2⟩
 ·have c0:b.w.cell? ⟨g,0,none⟩=some (.pointer (some ⟨g,0,none⟩)):=by rw [Lib.cell_of_heap e3];rfl
  refine (copyCheck_used g b.w c0).mono ?_
  rintro e w' ⟨rfl,rfl⟩
  exact fin hc
theorem W_strings_Builder_String {T0:TypeId} [BldT T0] {x0:Unit×List Int} {y:Str} (F0:F_strings_Builder_String x0=some y):Mut Tryz.prog 124 2 [.ptr 0 [] 0] [(0,.var T0 (.st (.prod .oref .ref)) ((0:Nat),(1:Nat))),(1,.row 5 (.int .u8) x0.2)] (.v .str y) []:=by
 obtain rfl:=inj F0
 refine ⟨Tryz.call124,fun b ξ us hc hr=>?_⟩
 obtain ⟨u,r,rfl,⟨g',hg',rfl⟩,hr2⟩:=hr
 have hr2:r=[]:=hr2
 subst hr2
 obtain ⟨g,v,e1,e2,e3,e4⟩:=bld_open hc (i:=0) (j:=1) (List.mem_cons_self ..) (List.mem_cons_of_mem _ (List.mem_cons_self ..))
 rw [e1] at hg'
 obtain rfl:g=g':=by simpa [blkOf] using hg'
 have fin:∀{w':World} {l:Str},l.length≤maxLen→w'.os=b.w.os→w'.tape=b.w.tape→w'.output=b.w.output→b.w.heap.size≤w'.heap.size→(∀k,k<b.w.heap.size→ξ 1≠some k→w'.heap[k]?=b.w.heap[k]?)→∃M' φ' ξ' v,Ending.returned (.string (bs l))=.returned v∧Core Tryz.prog b M' φ' ξ' [] w'∧RelV Tryz.prog M' φ' (.v .str l) v:=by
  intro w' l hl h1 h2 h3 h4 h5
  refine ⟨b.M,b.φ0,ξ,_,rfl,⟨hc.le,hc.same,hc.over' fun g c hg=>?_,⟨h1,h2,h3,h4,fun k hk he=>h5 k hk fun e=>?_⟩,fun _ _ h=>(by cases h),fun _ _ _ h=>(by cases h),fun _ _ _ _ _ h=>(by cases h),List.nodup_nil,hc.keep⟩,rfl,[.string (bs l)],rfl,rfl,hl⟩
  ·obtain ⟨t,fr,e⟩:=hc.over g c hg
   refine h5 g (Array.getElem?_eq_some_iff.1 e).1 fun e=>?_
   have:=(hc.feet 1 _ g (List.mem_cons_of_mem _ (List.mem_cons_self ..)) e).2
   rw [hg] at this
   cases this
  ·rcases (hc.feet 1 _ k (List.mem_cons_of_mem _ (List.mem_cons_self ..)) e).1 with h|h
   ·omega
   ·exact he h
 obtain ⟨hf,A,cap,k1,k2⟩:=hc.items 1 _ (List.mem_cons_of_mem _ (List.mem_cons_self ..))
 rw [k1] at e3
 rcases k2 with ⟨_,h0,rfl,rfl⟩|⟨g1,cur,k3,rfl,⟨fr,k4,kf⟩,k5,k6,k7,k8⟩
 ·rw [h0] at e3⊢
  refine (bldString_nil g v b.w e3).mono ?_
  rintro e w' ⟨rfl,rfl⟩
  exact fin (l:=[]) (by simp) rfl rfl rfl (Nat.le_refl _) fun _ _ _=>rfl
 ·obtain rfl:fr=(0,0):=kf.elim id fun q=>(by cases q.1)
  have hsz:(Sh.int .u8).size=1:=rfl
  rw [hsz,Nat.mul_one] at k7 k8
  have hby:=rep_bytes k8
  have hbl:(byS x0.2).length=x0.2.length:=by simp [byS]
  by_cases h0:x0.2=[]
  ·rw [h0] at e3⊢
   by_cases hz:cap=0
   ·subst hz
    refine (bldString_noroom g g1 v cur b.w e3 k4).mono ?_
    rintro e w' ⟨rfl,rfl⟩
    exact fin (l:=[]) (by simp) rfl rfl rfl (by simp) fun k hk _=>heap_alloc_old b.w.drew _ hk
   ·refine (bldString_room g g1 cap v b.w hz e3).mono ?_
    rintro e w' ⟨rfl,rfl⟩
    exact fin (l:=[]) (by simp) rfl rfl rfl (Nat.le_refl _) fun _ _ _=>rfl
  ·refine (bldString_row g g1 cap v cur (byS x0.2) b.w (by rw [hbl];exact e3) (by simpa [byS] using h0) k4 (by rw [hbl];exact k5) k6 k7 (by rw [hbl];exact hby)).mono ?_
   rintro e w' ⟨rfl,rfl⟩
   refine fin (by rw [hbl];omega) ?_ ?_ ?_ ?_ fun k hk hne=>?_
   ·unfold World.freeze;split<;>rfl
   ·unfold World.freeze;split<;>rfl
   ·unfold World.freeze;split<;>rfl
   ·unfold World.freeze;split<;>simp
   ·unfold World.freeze
    split
    ·rfl
    ·simp only [Array.getElem?_modify]
     rw [if_neg (by intro e;exact hne (by rw [k3];simpa using e))]
     rfl
theorem pure_below {P:Program} {f:FuncId} {l:List AVal} {α:AVal} {v:Value} (he:Enters P f) (h:∀(w:World) (M:Fz) (us:List Value),Over M w→RelVs P M φ0 l us→Calls P f us.toArray w fun e w'=>e=.returned v∧Below w.heap.size w w') (hv:∀M,RelV P M φ0 α v):Pure P f l α :=
 ⟨he,fun w M us ho hr=>(h w M us ho hr).mono (by
  rintro e w' ⟨rfl,hb⟩
  refine ⟨M,_,rfl,hb,Fz.le_refl _,fun _ _=>rfl,⟨fun g c hg=>?_,ho.gl⟩,hv M⟩
  obtain ⟨t,fr,e⟩:=ho.cells g c hg
  exact ⟨t,fr,(hb.block g (Array.getElem?_eq_some_iff.1 e).1).trans e⟩)⟩
theorem int_of {P:Program} {M:Fz} {k:IntKind} {x:Int} {u:Value} (h:RelV P M φ0 (.v (.int k) x) u):u=.int k x∧k.has x:=by
 obtain ⟨_,cs,rfl,rfl,h⟩:=h
 exact ⟨rfl,h⟩
theorem str_of {P:Program} {M:Fz} {x:Str} {u:Value} (h:RelV P M φ0 (.v .str x) u):u=.string (bs x)∧x.length≤maxLen:=by
 obtain ⟨_,cs,rfl,rfl,h⟩:=h
 exact ⟨rfl,h⟩
theorem no_rest {P:Program} {M:Fz} {r:List Value} (h:RelVs P M φ0 [] r):r=[]:=h
def F_pack_Put (n w:Int):Option Str:=some (putZ n.toNat w)
def F_pack_Take (s:Str) (w:Int):Option (Int×Str×Bool):=some ((tkN s w:Nat),tkR s w,tkB s w)
def F_pack_PutText (s:Str) (w:Int):Option (Str×Bool):=some (ptS s w,ptB s w)
def F_pack_TakeText (s:Str) (w:Int):Option (Str×Str×Bool):=if s.length≤9223372036854775000 then some (ttT s w,ttR s w,ttB s w) else none
theorem rel_of_int {P:Program} {M:Fz} {k:IntKind} {x:Int} (h:k.has x):RelV P M φ0 (.v (.int k) x) (.int k x):=⟨rfl,_,rfl,rfl,h⟩
theorem rel_of_str {P:Program} {M:Fz} {x:Str} (h:x.length≤maxLen):RelV P M φ0 (.v .str x) (.string (bs x)):=⟨rfl,_,rfl,rfl,h⟩
theorem rel_of_bool {P:Program} {M:Fz} {x:Bool}:RelV P M φ0 (.v .bool x) (.bool x):=⟨rfl,_,rfl,rfl⟩
theorem u64_ge {x:Int} (h:IntKind.u64.has x):0≤x∧x<18446744073709551616:=by simpa [IntKind.has,IntKind.min,IntKind.max,IntKind.signed,IntKind.bits,Int.le_iff_lt_add_one] using h
theorem u64_has {n:Nat} (h:n<18446744073709551616):IntKind.u64.has (n:Int):=by simp [IntKind.has,IntKind.min,IntKind.max,IntKind.signed,IntKind.bits];omega
theorem putZ_le (n:Nat) (m:Int):(putZ n m).length≤8:=by
 unfold putZ
 split
 ·rw [put_length];omega
 ·simp
theorem tkN_lt (s:Str) (m:Int):tkN s m<18446744073709551616:=by
 unfold tkN
 split
 ·rename_i h
  have h1:=val_lt (s.take m.toNat)
  have h2:256^(s.take m.toNat).length≤256^8:=Nat.pow_le_pow_right (by decide) (by rw [List.length_take];omega)
  have h3:(256:Nat)^8=18446744073709551616:=by decide
  omega
 ·decide
theorem tkR_le (s:Str) (m:Int):(tkR s m).length≤s.length:=by
 unfold tkR
 split
 ·simp
 ·simp
theorem ptS_le (s:Str) (m:Int):(ptS s m).length≤256:=by
 unfold ptS
 split
 ·rename_i h;rw [tput_length (by omega)];omega
 ·simp
theorem tt_le (s:Str) (m:Int):(ttT s m).length≤s.length∧(ttR s m).length≤s.length:=by
 unfold ttT ttR ttO
 split
 ·rename_i x hx
  split at hx
  ·obtain ⟨t,r⟩:=x
   obtain ⟨h1,h2,h3⟩:=tput_ttake hx
   have h4:=congrArg length h2
   rw [List.length_append,tput_length h1] at h4
   simp only
   omega
  ·cases hx
 ·simp
theorem W_pack_Put {n w:Int} {y:Str} (F0:F_pack_Put n w=some y):Pure Tryz.prog 155 [vu n,vi w] (.v .str y):=by
 obtain rfl:=inj F0
 refine pure_below Tryz.call155 (fun W M us ho hr=>?_) (v:=.string (bs (putZ n.toNat w))) fun M=>rel_of_str (by have:=putZ_le n.toNat w;unfold maxLen;omega)
 obtain ⟨u,r,rfl,hu,u2,r2,rfl,hu2,hr2⟩:=hr
 obtain rfl:=no_rest hr2
 obtain ⟨rfl,h1⟩:=int_of hu
 obtain ⟨rfl,_⟩:=int_of hu2
 have h1:=u64_ge h1
 have:=put_all n.toNat w W (by omega)
 rw [Int.toNat_of_nonneg h1.1] at this
 exact this
theorem pure_str {f:FuncId} {s:Str} {w:Int} {α:AVal} (he:Enters Tryz.prog f) (h:s.length≤maxLen→Pure Tryz.prog f [.v .str s,vi w] α):Pure Tryz.prog f [.v .str s,vi w] α :=
 ⟨he,fun W M us ho hr=>by
  obtain ⟨u,r,rfl,hu,hr2⟩:=id hr
  exact (h (str_of hu).2).2 W M _ ho hr⟩
theorem W_pack_Take {s:Str} {w:Int} {y:Int×Str×Bool} (F0:F_pack_Take s w=some y):Pure Tryz.prog 189 [vs s,vi w] (.tup [vu y.1,vs y.2.1,vb y.2.2]):=by
 obtain rfl:=inj F0
 refine pure_str Tryz.call189 fun hl=>pure_below Tryz.call189 (fun W M us ho hr=>?_) (v:=.tuple #[.int .u64 (tkN s w),.string (bs (tkR s w)),.bool (tkB s w)]) fun M=>⟨[.int .u64 (tkN s w),.string (bs (tkR s w)),.bool (tkB s w)],rfl,_,_,rfl,rel_of_int (u64_has (tkN_lt s w)),_,_,rfl,rel_of_str (Nat.le_trans (tkR_le s w) hl),_,_,rfl,rel_of_bool,rfl⟩
 obtain ⟨u,r,rfl,hu,u2,r2,rfl,hu2,hr2⟩:=hr
 obtain rfl:=no_rest hr2
 obtain ⟨rfl,h1⟩:=str_of hu
 obtain ⟨rfl,_⟩:=int_of hu2
 refine (take_all (bs s) w W (by rw [bs_size];unfold maxLen at h1;omega)).mono ?_
 rintro e w' ⟨rfl,hd⟩
 exact ⟨rfl,hd.below _⟩
theorem W_pack_PutText {s:Str} {w:Int} {y:Str×Bool} (F0:F_pack_PutText s w=some y):Pure Tryz.prog 196 [vs s,vi w] (.tup [vs y.1,vb y.2]):=by
 obtain rfl:=inj F0
 refine pure_below Tryz.call196 (fun W M us ho hr=>?_) (v:=.tuple #[.string (bs (ptS s w)),.bool (ptB s w)]) fun M=>⟨[.string (bs (ptS s w)),.bool (ptB s w)],rfl,_,_,rfl,rel_of_str (Nat.le_trans (ptS_le s w) (by unfold maxLen;omega)),_,_,rfl,rel_of_bool,rfl⟩
 obtain ⟨u,r,rfl,hu,u2,r2,rfl,hu2,hr2⟩:=hr
 obtain rfl:=no_rest hr2
 obtain ⟨rfl,h1⟩:=str_of hu
 obtain ⟨rfl,_⟩:=int_of hu2
 exact putText_all (bs s) w W
theorem W_pack_TakeText {s:Str} {w:Int} {y:Str×Str×Bool} (F0:F_pack_TakeText s w=some y):Pure Tryz.prog 199 [vs s,vi w] (.tup [vs y.1,vs y.2.1,vb y.2.2]):=by
 unfold F_pack_TakeText at F0
 split at F0
 ·rename_i hl
  obtain rfl:=inj F0
  have hm:s.length≤maxLen:=by unfold maxLen;omega
  have ht:=tt_le s w
  refine pure_below Tryz.call199 (fun W M us ho hr=>?_) (v:=.tuple #[.string (bs (ttT s w)),.string (bs (ttR s w)),.bool (ttB s w)]) fun M=>⟨[.string (bs (ttT s w)),.string (bs (ttR s w)),.bool (ttB s w)],rfl,_,_,rfl,rel_of_str (Nat.le_trans ht.1 hm),_,_,rfl,rel_of_str (Nat.le_trans ht.2 hm),_,_,rfl,rel_of_bool,rfl⟩
  obtain ⟨u,r,rfl,hu,u2,r2,rfl,hu2,hr2⟩:=hr
  obtain rfl:=no_rest hr2
  obtain ⟨rfl,h1⟩:=str_of hu
  obtain ⟨rfl,_⟩:=int_of hu2
  refine (takeText_all (bs s) w W (by rw [bs_size];exact hl)).mono ?_
  rintro e w' ⟨rfl,hd⟩
  exact ⟨rfl,hd.below _⟩
 ·cases F0
abbrev shL:Sh:=.st (.prod (.int .i64) (.prod (.int .i64) (.prod .str .bool)))
set_option maxHeartbeats 1000000 in
set_option maxRecDepth 100000 in
theorem grow_letters (n:Nat) (w:World) (h0:0<n) (hn:n≤1000000) :
  Calls Tryz.prog 160 #[.slice none 0 0,.int .i64 n] w fun e w'=>∃cap c,n≤cap∧cap≤maxLen∧c.size=cap*4∧e=.returned (.slice (some ⟨w.heap.size,0,none⟩) 0 cap)∧w'=w.drew.alloc (.cells c 93):=by
 have hap:=Lib.run_append_nil_zeros (P:=Tryz.prog) w 27 3 27 93 Tryz.t93 ((Tryz.t93).zero.getD default) .i64 .i64 Tryz.underlying27 Tryz.underlying3 (by kernel_rfl) (by kernel_rfl) n h0 (by decide) (by omega) (by have:(Tryz.t93).bytes=40:=(by kernel_rfl);rw [this];omega)
 obtain ⟨Z,hZ,hZ4⟩:∃Z:Array Value,((Tryz.t93).zero.getD default).cells=Z∧Z.size=4:=⟨_,rfl,rfl⟩
 rw [hZ] at hap
 clear hZ
 have h1:decide ((n:Int)<0)=false:=decide_eq_false (by omega)
 have h2:decide ((0:Int)<(n:Int))=true:=decide_eq_true (by omega)
 have hw:IntKind.i64.wrap (n:Int)=n:=by rw [IntKind.wrap_i64];omega
 go_enter Tryz.func160,Tryz.ntmps160
 go_wp2_with (at_builtin;refine Lib.wpList_append_run _ rfl _ _ _ _ rfl _ _ rfl rfl _ _ hap ?_)
 go_ret
 refine ⟨_,_,grownCap_ge w n 0 _,grownCap_le_maxLen w n 0 _ (by unfold maxLen;omega),?_,rfl,rfl⟩
 have:=grownCap_ge w n 0 93
 rw [Array.size_append,size_zeroCells,size_zeroCells,hZ4,← Nat.add_mul]
 congr 1
 omega
set_option maxHeartbeats 1000000 in
set_option maxRecDepth 100000 in
theorem grow_none (w:World):Calls Tryz.prog 160 #[.slice none 0 0,.int .i64 0] w fun e w'=>e=.returned (.slice none 0 0)∧w'=w:=by
 go_enter Tryz.func160,Tryz.ntmps160
 go_wp2
 go_ret
 exact ⟨rfl,rfl⟩
def F_slices_Grow_api_Letter_api_Letter (x0:Unit) (x1:Int):Option (List shL.ty):=if 0≤x1∧x1≤1000000 then some [] else none
theorem W_slices_Grow_api_Letter_api_Letter {x0:Unit} {x1:Int} {y:List shL.ty} (F0:F_slices_Grow_api_Letter_api_Letter x0 x1=some y):Mut Tryz.prog 160 0 [.v (.nl shL) x0,vi x1] [] (.row 0) [(0,.row 93 shL y)]:=by
 unfold F_slices_Grow_api_Letter_api_Letter at F0
 split at F0
 ·rename_i hx
  obtain rfl:=inj F0
  refine ⟨Tryz.call160,fun b ξ us hc hr=>?_⟩
  obtain ⟨u,r,rfl,⟨_,cs,rfl,hu⟩,u2,r2,rfl,⟨_,cs2,rfl,hu2⟩,hr2⟩:=hr
  obtain rfl:r2=[]:=hr2
  have hu:cs=[.slice none 0 0]:=hu
  obtain ⟨rfl,_⟩:=hu2
  subst hu
  obtain ⟨n,rfl⟩:=Int.eq_ofNat_of_zero_le hx.1
  have hL:freshB 0 0 ([]:AEnv) ([]:AStore)=true:=by kernel_rfl
  rcases Nat.eq_zero_or_pos n with rfl|h0
  ·refine (grow_none b.w).mono ?_
   rintro e w' ⟨rfl,rfl⟩
   exact ⟨b.M,_,_,_,rfl,hc.grow (L:=0) (u:=.slice none 0 0) (o:=none) (it:=.row 93 shL []) hL rfl rfl rfl (Nat.le_refl _) (fun _ _=>rfl) ⟨rfl,none,0,rfl,.inl ⟨rfl,rfl,rfl,rfl⟩⟩ (fun g hg=>by cases hg),rfl,rfl⟩
  ·refine (grow_letters n b.w h0 (by have:=hx.2;omega)).mono ?_
   rintro e w' ⟨cap,c,k1,k2,k3,rfl,rfl⟩
   exact ⟨b.M,_,_,_,rfl,(hc.draws 1).alloc (L:=0) (u:=.slice (some ⟨b.w.heap.size,0,none⟩) 0 cap) (c:=c) (T:=93) (it:=.row 93 shL []) hL ⟨rfl,some ⟨b.w.heap.size,0,none⟩,cap,rfl,.inr ⟨b.w.heap.size,c,rfl,rfl,⟨_,heap_alloc_new b.w.drew _,.inl rfl⟩,Nat.zero_le _,k2,k3,by simp [RepC,RepL]⟩⟩,rfl,rfl⟩
 ·cases F0
end Go.Proofs.YtjcbamenfaoffaaGreatDoor
namespace Go.Proofs.YtjcbamenfaoffaaGreatDoor
open Go.ChangeShapes Go.WideShapes Go.ChangeAt Go.RowKit
theorem Tryz.own:ownKnob Tryz.prog.godebug=none:=by kernel_rfl
theorem Tryz.laidOut:laidOutB Tryz.prog=true:=by kernel_rfl
theorem trodAll_stays {H:Type} {enc:TypeId×Value→H} {P:Program} (hl:laidOutB P=true) {W W':World} {sp':Nat→Bool} :
  ∀(ts:List TypeId) (vs:List Value) (ds:List (DataW H)) (ps:List MemPlace),(∀t∈ts,P.readableRec t=true∧t<P.types.size) →
   DataW.TrodAll enc P W 0 (fun _=>true) true ts vs ds ps→(∀p∈ps,W.sameAt W' p)→(∀p∈ps,sp' p.block=true)→DataW.TrodAll enc P W' 0 sp' true ts vs ds ps
 | [],[],[],_,_,h,_,_=>h
 | [],_::_,_,_,_,h,_,_=>h.elim
 | [],[],_::_,_,_,h,_,_=>h.elim
 | _::_,[],_,_,_,h,_,_=>h.elim
 | _::_,_::_,[],_,_,h,_,_=>h.elim
 | t::ts,v::vs,d::ds,ps,hr,h,hs,hp=>by
  obtain ⟨p,q,h1,h2,rfl⟩:=h
  have ht:=hr t (List.mem_cons_self ..)
  exact ⟨p,q,WideElems.Trod_stays hl ht.1 ht.2 h1 (fun x hx=>hs x (List.mem_append_left _ hx)) (fun x hx=>hp x (List.mem_append_left _ hx)),
   trodAll_stays hl ts vs ds q (fun u hu=>hr u (List.mem_cons_of_mem _ hu)) h2 (fun x hx=>hs x (List.mem_append_right _ hx)) (fun x hx=>hp x (List.mem_append_right _ hx)),rfl⟩
theorem law_post {H:Type} {enc:TypeId×Value→H} {P:Program} {f:Func} {s:ChangeSpec} {apart fresh handsOn:Bool} {W W':World} {args:Array Value} {ds gs:List (DataW H)} {before:List MemPlace} {tb:TypeId}
  (hl:laidOutB P=true) (hr:∀t∈f.params.toList,P.readableRec t=true∧t<P.types.size) (hrt:f.resultTypes=#[tb]) (htb:P.underlying tb=some .bool) (hvars:s.vars=[])
  (hW:DataW.Whole enc P f.params.toList s.vars apart W args.toList ds gs before)
  (hres:(s.fn H (ds++gs)).results=[.lit (.bool true)]) (hargs:(s.fn H (ds++gs)).args=ds) (hvs:(s.fn H (ds++gs)).vars=[])
  (hb:Below W.heap.size W W'):s.post enc P f apart fresh handsOn false W args (.bool true) W':=by
 have hW':=hW
 have hlt:∀p∈before,p.block<W.heap.size:=fun p hp=>hW.lt p hp
 obtain ⟨p,q,hA,hV,rfl,hfz,hnd⟩:=hW
 rw [hvars] at hV
 obtain ⟨rfl,rfl⟩:=trodVars_none hV
 refine ⟨ds,[],_,[],p,[],hW',?_,?_,?_,hb.frame _,fun h=>by cases h⟩
 ·rw [hres,hrt]
  exact trodAll_mk1 (shut_bool htb true)
 ·rw [hargs]
  exact trodAll_stays hl _ _ _ _ hr hA (fun x hx=>hb.same (hlt x (by simp [hx]))) (fun x hx=>by simpa using hlt x (by simp [hx]))
 ·rw [hvs,hvars];rfl
def Sh.ok:(s:Sh)→s.ty→Prop
 | .int k,x=>k.has x
 | .str,x=>length x≤maxLen
 | .prod a b,x=>a.ok x.1∧b.ok x.2
 | .st s,x=>s.ok x
 | .arr n s,x=>length x=n∧∀y∈(show List s.ty from x),s.ok y
 | .sl s,x=>length x≤maxLen∧∀y∈(show List s.ty from x),s.ok y
 | _,_=>True
theorem RepL_all {α:Type} {R:List Value→α→Prop} {Q:α→Prop} (h:∀c x,R c x→Q x):∀{vs:List Value} {xs:List α},RepL R vs xs→∀x∈xs,Q x
 | vs,[],_,x,hx=>by cases hx
 | vs,y::xs,⟨c,r,_,h1,h2⟩,x,hx=>by
  rcases List.mem_cons.1 hx with rfl|hx
  ·exact h c _ h1
  ·exact RepL_all h h2 x hx
theorem rep_ok {P:Program} {φ:Nat→Value} {M:Fz}:∀{s:Sh} {cs:List Value} {x:s.ty},RepC P φ s M cs x→s.ok x:=by
 intro s
 induction s with
 | int k=>intro cs x h;exact h.2
 | str=>intro cs x h;exact h.2
 | prod a b iha ihb=>intro cs x h;obtain ⟨c1,c2,_,h1,h2⟩:=h;exact ⟨iha h1,ihb h2⟩
 | st s ih=>intro cs x h;exact ih (cs:=cs) h
 | arr n s ih=>intro cs x h;exact ⟨h.1,RepL_all (fun c y hc=>ih hc) h.2⟩
 | sl s ih =>
  intro cs x h
  obtain ⟨A,n,cap,vs,_,h1,h2,_,h4⟩:=h
  exact ⟨by omega,RepL_all (fun c y hc=>ih hc) h4⟩
 | _=>intro cs x _;trivial
theorem relV_ok {P:Program} {φ:Nat→Value} {M:Fz} {s:Sh} {x:s.ty} {v:Value} (h:RelV P M φ (.v s x) v):s.ok x:=by
 obtain ⟨_,cs,_,h⟩:=h
 exact rep_ok h
def memM (w:World):Fz:=fun g=>match w.heap[g]? with
 | some (.cells c _ _)=>some c
 | _=>none
theorem memM_over (w:World) (hg:GL (memM w)):Over (memM w) w:=⟨fun g c h=>(by
 unfold memM at h
 split at h
 ·rename_i c' t fr e
  simp only [injEq] at h
  subst h
  exact ⟨t,fr,e⟩
 ·cases h),hg⟩
theorem cell_mem {w:World} {a:Addr} {v:Value} (h:w.cell? a=some v):∃b o c,a=⟨b,o,none⟩∧memM w b=some c∧c[o]?=some v:=by
 have hs:=World.cell?_spot h
 obtain ⟨b,o,s⟩:=a
 simp only at hs
 subst hs
 unfold World.cell? at h
 split at h
 ·rename_i c t fr e
  exact ⟨b,o,c,rfl,by simp [memM,e],by simpa using h⟩
 ·cases h
theorem gl_free {M:Fz}:GL M:=⟨fun p hp=>(by cases hp),fun g hg=>(by cases hg)⟩
theorem law_walk {P:Program} {k:FuncId} {l:List AVal} {us:List Value} {W:World} (hg:GL (memM W)) (h:Pure P k l (.v .bool true)) (hr:RelVs P (memM W) φ0 l us):Calls P k us.toArray W fun e w'=>e=.returned (.bool true)∧Below W.heap.size W w':=by
 refine (h.2 W (memM W) us (memM_over W hg) hr).mono ?_
 rintro e w' ⟨M',v,rfl,hb,_,_,_,_,cs,rfl,hc⟩
 simp only [RepC] at hc
 subst hc
 exact ⟨rfl,hb⟩
def opGo (P:Program) (F:TypeId→Sh→Bool):Nat→List Field→Sh→Bool
 | off,[],.unit=>true
 | off,[f],s=>F f.type s&&Nat.beq f.offset off&&Nat.beq (P.cellsOf f.type) s.size
 | off,f::fs,.prod a b=>F f.type a&&Nat.beq f.offset off&&Nat.beq (P.cellsOf f.type) a.size&&opGo P F (off+a.size) fs b
 | _,_,_=>false
def opSh (P:Program):Nat→TypeId→Sh→Bool
 | 0,_,_=>false
 | d+1,t,s=>match P.underlying t,s with
  | some .bool,.bool=>true
  | some (.int k),.int k'=>decide (k'=k)
  | some .string,.str=>true
  | some (.array n e),.arr m s'=>Nat.beq n m&&opSh P d e s'&&Nat.beq (P.cellsOf e) s'.size&&Nat.beq (P.cellsOf t) (n*s'.size)
  | some (.slice e),.sl s'=>opSh P d e s'&&s'.fixed&&Nat.beq (P.cellsOf e) s'.size&&Nat.blt 0 s'.size
  | some (.struct fs),.st s'=>opGo P (opSh P d) 0 fs.toList s'&&Nat.beq (P.cellsOf t) s'.size
  | _,_=>false
def Sh.bulk:(s:Sh)→s.ty→Nat
 | .int _,_=>1
 | .bool,_=>1
 | .str,x=>length x+1
 | .prod a b,x=>a.bulk x.1+b.bulk x.2
 | .st s,x=>s.bulk x+1
 | .arr _ s,x=>(List.map s.bulk x).sum+1
 | .sl s,x=>(List.map s.bulk x).sum+1
 | _,_=>0
theorem bulkAll_sum {H:Type}:∀l:List (DataW H),Rows.uptoBulkAll l=(l.map Rows.uptoBulk).sum
 | []=>by simp [Rows.uptoBulkAll]
 | d::r=>by simp [Rows.uptoBulkAll,bulkAll_sum r]
theorem rows_of {α:Type} {R:List Value→α→Prop} {sz:Nat} {bk:α→Nat}:∀(n:Nat) (cs:List Value) (B:Nat→Nat),cs.length=n*sz→(∀i,i<n→∃y,R ((cs.drop (i*sz)).take sz) y∧bk y≤B i)→∃xs:List α,xs.length=n∧RepL R cs xs∧(xs.map bk).sum≤((List.range n).map B).sum
 | 0,cs,B,hl,_=>⟨[],rfl,List.length_eq_zero_iff.1 (by simpa using hl),by simp⟩
 | n+1,cs,B,hl,h=>by
  obtain ⟨y,hy,hb⟩:=h 0 (by omega)
  have hl':(cs.drop sz).length=n*sz:=by rw [List.length_drop,hl,Nat.succ_mul];omega
  obtain ⟨xs,h1,h2,h3⟩:=rows_of n (cs.drop sz) (fun i=>B (i+1)) hl' fun i hi=>by
   obtain ⟨y,hy,hb⟩:=h (i+1) (by omega)
   refine ⟨y,?_,hb⟩
   rw [List.drop_drop,show sz+i*sz=(i+1)*sz by rw [Nat.succ_mul];omega]
   exact hy
  refine ⟨y::xs,by simp [h1],⟨cs.take sz,cs.drop sz,(List.take_append_drop _ _).symm,by simpa using hy,h2⟩,?_⟩
  rw [List.range_succ_eq_map]
  simp only [List.map_cons,List.sum_cons,List.map_map]
  have e:(List.map (B ∘ Nat.succ) (List.range n)).sum=(List.map (fun i=>B (i+1)) (List.range n)).sum:=rfl
  omega
section
variable {H:Type} {enc:TypeId×Value→H} {P:Program} {w:World} {spare:Nat→Bool} {held:Bool} {φ:Nat→Value}
theorem open_go {d:Nat} {cs:List Value} {m:Nat} (ih:∀(t:TypeId) (s:Sh) (fuel:Nat) (cs:List Value) (x:DataW H×List MemPlace),opSh P d t s=true→DataW.trod enc P w 0 spare held fuel t cs=some x→∃y,RepC P φ s (memM w) cs y∧s.bulk y≤Rows.uptoBulk x.1) :
  ∀(fl:List Field) (xs:List (DataW H×List MemPlace)) (off:Nat) (s:Sh),opGo P (opSh P d) off fl s=true→xs.length=fl.length→(∀(i:Nat) f,fl[i]?=some f→∃x,xs[i]?=some x∧DataW.trod enc P w 0 spare held m f.type ((cs.drop f.offset).take (P.cellsOf f.type))=some x)→cs.length=off+s.size→∃y,RepC P φ s (memM w) (cs.drop off) y∧s.bulk y≤Rows.uptoBulkAll (xs.map (·.1))
 | [],xs,off,s,h,hx,hall,hl=>by
  cases s<;>simp [opGo] at h
  simp [Sh.size] at hl
  refine ⟨(),?_,Nat.zero_le _⟩
  show cs.drop off=[]
  exact List.drop_eq_nil_of_le (by omega)
 | [f],xs,off,s,h,hxl,hall,hl=>by
  have h':(opSh P d f.type s&&Nat.beq f.offset off&&Nat.beq (P.cellsOf f.type) s.size)=true:=by
   cases s<;>simpa [opGo] using h
  simp only [Bool.and_eq_true] at h'
  obtain ⟨⟨h1,h2⟩,h3⟩:=h'
  have h2:=Nat.eq_of_beq_eq_true h2
  have h3:=Nat.eq_of_beq_eq_true h3
  obtain ⟨x,hq,hx⟩:=hall 0 f rfl
  rw [h2,h3,List.take_of_length_le (by rw [List.length_drop];omega)] at hx
  obtain ⟨y,k1,k2⟩:=ih _ _ _ _ _ h1 hx
  refine ⟨y,k1,Nat.le_trans k2 ?_⟩
  cases xs with
  | nil=>cases hq
  | cons x' r =>
   obtain rfl:x'=x:=inj hq
   rw [List.map_cons,Rows.uptoBulkAll]
   omega
 | f::g::fs,xs,off,s,h,hxl,hall,hl=>by
  cases s<;>simp [opGo] at h
  rename_i a b
  obtain ⟨⟨⟨h1,h2⟩,h3⟩,h4⟩:=h
  obtain ⟨x,hq,hx⟩:=hall 0 f rfl
  rw [h2,h3] at hx
  simp only [Sh.size] at hl
  cases xs with
  | nil=>cases hq
  | cons x' r =>
   obtain rfl:x'=x:=inj hq
   obtain ⟨y1,k1,b1⟩:=ih _ _ _ _ _ h1 hx
   obtain ⟨y2,k2,b2⟩:=open_go ih (g::fs) r (off+a.size) b h4 (by simpa using hxl) (fun i q hq=>hall (i+1) q hq) (by omega)
   refine ⟨(y1,y2),⟨_,_,?_,k1,k2⟩,?_⟩
   ·rw [← List.drop_drop,List.take_append_drop]
   ·rw [List.map_cons,Rows.uptoBulkAll]
    show a.bulk y1+b.bulk y2≤_
    omega
theorem open_cells:∀(d:Nat) (t:TypeId) (s:Sh) (fuel:Nat) (cs:List Value) (x:DataW H×List MemPlace),opSh P d t s=true→DataW.trod enc P w 0 spare held fuel t cs=some x→∃y,RepC P φ s (memM w) cs y∧s.bulk y≤Rows.uptoBulk x.1:=by
 intro d
 induction d with
 | zero=>intro t s fuel cs x h;simp [opSh] at h
 | succ d ih =>
  intro t s fuel cs x h ht
  simp only [opSh] at h
  split at h
  ·rename_i hu
   obtain ⟨b,rfl,rfl⟩:=DataW.trod_bool hu ht
   exact ⟨b,rfl,by simp [Sh.bulk,Rows.uptoBulk]⟩
  ·rename_i k k' hu
   simp only [decide_eq_true_eq] at h
   subst h
   obtain ⟨n,rfl,rfl,hw⟩:=DataW.trod_int hu ht
   refine ⟨n,⟨rfl,?_⟩,by simp [Sh.bulk,Rows.uptoBulk]⟩
   simpa [Lit.wf,IntKind.has] using hw
  ·rename_i hu
   obtain ⟨b,rfl,rfl,hw⟩:=DataW.trod_string hu ht
   refine ⟨b.data.toList,⟨by rw [bs_data],?_⟩,by simp [Sh.bulk,Rows.uptoBulk]⟩
   rw [Array.length_toList]
   exact hw
  ·rename_i n e m s' hu
   simp only [Bool.and_eq_true] at h
   obtain ⟨⟨⟨h1,h2⟩,h3⟩,h4⟩:=h
   have h1:=Nat.eq_of_beq_eq_true h1
   have h3:=Nat.eq_of_beq_eq_true h3
   have h4:=Nat.eq_of_beq_eq_true h4
   subst h1
   obtain ⟨xs,m,_,rfl,hlen,hxl,hx⟩:=DataW.trod_array hu ht
   obtain ⟨ys,k1,k2,k3⟩:=rows_of (R:=RepC P φ s' (memM w)) (bk:=s'.bulk) n cs (fun i=>match xs[i]? with|some x=>Rows.uptoBulk x.1|none=>0) (by rw [hlen,h4]) fun i hi=>by
    have h5:=hx i hi
    rw [h3,List.getElem?_eq_getElem (by omega)] at h5
    rw [List.getElem?_eq_getElem (by omega)]
    exact ih _ _ _ _ _ h2 h5
   refine ⟨ys,⟨k1,k2⟩,?_⟩
   have e:(List.range n).map (fun i=>match xs[i]? with|some x=>Rows.uptoBulk x.1|none=>0)=(xs.map (·.1)).map Rows.uptoBulk:=by
    apply List.ext_getElem (by simp [hxl])
    intro i q1 q2
    simp only [List.getElem_map,List.getElem_range]
    rw [List.getElem?_eq_getElem (by simpa using q2)]
   rw [e] at k3
   show (List.map s'.bulk ys).sum+1≤Rows.uptoBulk (.agg (xs.map (·.1)))
   rw [Rows.uptoBulk,bulkAll_sum]
   omega
  ·rename_i e s' hu
   simp only [Bool.and_eq_true] at h
   obtain ⟨⟨⟨h1,h2⟩,h3⟩,h4⟩:=h
   have h3:=Nat.eq_of_beq_eq_true h3
   rw [Nat.blt_eq] at h4
   rcases Deep.open_slice hu ht with ⟨rfl,rfl⟩|⟨a,len,cap,m,n,Dn,Pl,rfl,hb,hl,hm,hmm,rfl,hi⟩
   ·exact ⟨[],⟨none,0,0,[],rfl,rfl,⟨Nat.le_refl _,by simp [maxLen]⟩,Cl.nil _ _,rfl⟩,by simp [Sh.bulk,Rows.uptoBulk]⟩
   ·have hlm:len≤m:=by rw [hmm];split<;>omega
    rcases Nat.eq_zero_or_pos len with rfl|hp
    ·exact ⟨[],⟨some a,0,cap,[],rfl,rfl,⟨Nat.zero_le _,hm⟩,Cl.nil _ _,rfl⟩,by simp [Sh.bulk,Rows.uptoBulk]⟩
    ·rw [h3] at hi
     have each:∀i,i<len→∃cs',cs'.length=s'.size∧(∃y,RepC P φ s' (memM w) cs' y∧s'.bulk y≤Rows.uptoBulk (Dn i))∧∀j,j<s'.size→w.cell? ((a.add (i*s'.size)).add j)=cs'[j]?:=by
      intro i hlt
      obtain ⟨cs',hc,hr⟩:=hi i (by omega)
      obtain ⟨-,hl0,hg⟩:=World.cells?_some hc
      exact ⟨cs',hl0,ih _ _ _ _ _ h1 hr,hg⟩
     obtain ⟨cs0,l0,-,g0⟩:=each 0 hp
     have g0:=g0 0 h4
     rw [List.getElem?_eq_getElem (by omega)] at g0
     have hs:a.spot=none:=by simpa [Addr.add] using World.cell?_spot g0
     obtain ⟨b,o,sp⟩:=a
     simp only at hs
     subst hs
     obtain ⟨b',o',c,e1,e2,e3⟩:=cell_mem g0
     rw [addz,addz] at e1
     simp only [Addr.mk.injEq] at e1
     obtain ⟨rfl,rfl,_⟩:=e1
     have cellc:∀k,w.cell? ⟨b,k,none⟩=c[k]?:=by
      intro k
      unfold memM at e2
      split at e2
      ·rename_i c' t' fr e4
       simp only [injEq] at e2
       subst e2
       simp [World.cell?,e4]
      ·cases e2
     have each':∀i,i<len→∃cs',cs'.length=s'.size∧(∃y,RepC P φ s' (memM w) cs' y∧s'.bulk y≤Rows.uptoBulk (Dn i))∧∀j,j<s'.size→c[o+i*s'.size+j]?=cs'[j]?:=by
      intro i hlt
      obtain ⟨cs',k1,k2,k3⟩:=each i hlt
      refine ⟨cs',k1,k2,fun j hj=>?_⟩
      rw [← k3 j hj,addz,addz,cellc]
     have hbig:o+len*s'.size≤c.size:=by
      obtain ⟨cs',k1,_,k3⟩:=each' (len-1) (by omega)
      have:=k3 (s'.size-1) (by omega)
      rw [List.getElem?_eq_getElem (by omega)] at this
      have:=(Array.getElem?_eq_some_iff.1 this).1
      have e:(len-1)*s'.size+s'.size=len*s'.size:=by rw [← Nat.succ_mul];congr 1;omega
      omega
     have hvl:((c.toList.drop o).take (len*s'.size)).length=len*s'.size:=by
      rw [List.length_take,List.length_drop]
      simp only [Array.length_toList]
      omega
     obtain ⟨ys,k1,k2,k3⟩:=rows_of (R:=RepC P φ s' (memM w)) (bk:=s'.bulk) len ((c.toList.drop o).take (len*s'.size)) (fun i=>Rows.uptoBulk (Dn i)) hvl fun i hlt=>by
      obtain ⟨cs',q1,⟨y,q2,qb⟩,q3⟩:=each' i hlt
      refine ⟨y,?_,qb⟩
      have hle:i*s'.size+s'.size≤len*s'.size:=by rw [← Nat.succ_mul];exact Nat.mul_le_mul_right _ hlt
      have:(((c.toList.drop o).take (len*s'.size)).drop (i*s'.size)).take s'.size=cs':=by
       apply List.ext_getElem?
       intro j
       by_cases hj:j<s'.size
       ·rw [List.getElem?_take_of_lt hj,List.getElem?_drop,List.getElem?_take_of_lt (by omega),List.getElem?_drop,← q3 j hj]
        simp [Nat.add_assoc]
       ·rw [List.getElem?_eq_none (by rw [List.length_take];omega),List.getElem?_eq_none (by omega)]
      rw [this]
      exact q2
     refine ⟨ys,⟨some ⟨b,o,none⟩,len,cap,_,rfl,k1,⟨hl,hm⟩,fun q hq=>⟨b,o,c,rfl,e2,?_⟩,k2⟩,?_⟩
     ·rw [hvl] at hq
      rw [List.getElem?_take_of_lt hq,List.getElem?_drop]
      simp
     ·show (List.map s'.bulk ys).sum+1≤Rows.uptoBulk (.slice ((List.range len).map Dn) _)
      rw [Rows.uptoBulk,bulkAll_sum,List.map_map]
      have e:(List.map (Rows.uptoBulk ∘ Dn) (List.range len)).sum=(List.map (fun i=>Rows.uptoBulk (Dn i)) (List.range len)).sum:=rfl
      omega
  ·rename_i fs s' hu
   simp only [Bool.and_eq_true] at h
   obtain ⟨h1,h2⟩:=h
   have h2:=Nat.eq_of_beq_eq_true h2
   obtain ⟨xs,m,_,rfl,hlen,hxl,hx⟩:=DataW.trod_struct hu ht
   obtain ⟨y,k1,k2⟩:=open_go ih (m:=m) (cs:=cs) fs.toList xs 0 s' h1 (by rw [hxl];simp) (fun i f hi=>by
    rw [Array.getElem?_toList] at hi
    have h3:=hx i f hi
    have hlt:i<fs.size:=(Array.getElem?_eq_some_iff.1 hi).1
    rw [List.getElem?_eq_getElem (by omega)] at h3
    exact ⟨_,List.getElem?_eq_getElem (by omega),h3⟩) (by omega)
   rw [List.drop_zero] at k1
   refine ⟨y,k1,?_⟩
   show s'.bulk y+1≤Rows.uptoBulk (.agg (xs.map (·.1)))
   rw [Rows.uptoBulk]
   omega
  ·cases h
theorem open_shB {W:World} {b0:Nat} {v:Value} {d:DataW H} {p:List MemPlace} {sp:Nat→Bool} {t:TypeId} {n:Nat} (s:Sh) (hs:opSh P (n+1) t s=true) (hf:s.fixed=true) (hv:Value.okWide P W .any b0 t v) (h:DataW.Trod enc P W 0 sp true t v d p):∃x:s.ty,RelV P (memM W) φ0 (.v s x) v∧s.bulk x≤Rows.uptoBulk d:=by
 obtain ⟨fuel,hg⟩:=h
 obtain ⟨y,hy,hbk⟩:=open_cells (φ:=φ0) (n+1) t s fuel _ _ hs hg
 refine ⟨y,⟨hf,_,?_,hy⟩,hbk⟩
 have agg:(∃cs:Array Value,v=.agg cs)→s.agg=true→v=mkV s v.cells.toList:=by
  rintro ⟨cs,rfl⟩ ha
  simp [mkV,ha,Value.cells]
 have one:s.agg=false→(∀cs:Array Value,v≠.agg cs)→v=mkV s v.cells.toList:=by
  intro ha hne
  unfold mkV
  rw [ha]
  cases v<;>first|rfl|exact absurd rfl (hne _)
 cases hu:P.underlying t with
 | none=>simp [opSh,hu] at hs
 | some td =>
  simp only [opSh,hu] at hs
  split at hs
  ·rename_i h1;simp only [injEq] at h1;subst h1
   refine one rfl fun cs e=>?_
   subst e
   simp [Value.okWide,hu,Cell.okWide,Cell.ok] at hv
  ·rename_i h1;simp only [injEq] at h1;subst h1
   refine one rfl fun cs e=>?_
   subst e
   simp [Value.okWide,hu,Cell.okWide,Cell.ok] at hv
  ·rename_i h1;simp only [injEq] at h1;subst h1
   refine one rfl fun cs e=>?_
   subst e
   simp [Value.okWide,hu,Cell.okWide,Cell.ok] at hv
  ·rename_i h1;simp only [injEq] at h1;subst h1
   simp only [Value.okWide,hu] at hv
   obtain ⟨cs,h1,h2,_⟩:=hv
   exact agg ⟨cs,h1⟩ rfl
  ·rename_i h1;simp only [injEq] at h1;subst h1
   obtain ⟨a,len,cap,rfl⟩:=okWide_slice hu hv
   rfl
  ·rename_i h1;simp only [injEq] at h1;subst h1
   simp only [Value.okWide,hu] at hv
   obtain ⟨cs,h1,h2,_⟩:=hv
   exact agg ⟨cs,h1⟩ rfl
  ·cases hs
end
end Go.Proofs.YtjcbamenfaoffaaGreatDoor
