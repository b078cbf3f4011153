/- Laws of my own that the statement leans on; part R4. -/
import Derived.Shelf.Strings.Builder1
import Derived.Shelf.Strings.BuilderF
import Derived.Shelf.Strings.BuilderK
import Derived.Shelf.Strconv.Itoa0
import Derived.Shelf.Strconv.Itoa1
import Derived.Shelf.LaysM
import Derived.Shelf.Strconv.Itoa2
import Derived.Shelf.Strconv.Itoa3
import Derived.Shelf.Strconv.Clone
import Derived.Shelf.Strconv.SyntaxError
import Derived.Shelf.LaysC
import Derived.Shelf.Strconv.ToError
import Derived.Shelf.Strconv.Lower
import Derived.Shelf.Strconv.ParseUint10
import Derived.Shelf.Strconv.ParseUint10Empty
import Derived.Shelf.Strconv.ParseUint10Any
import Derived.Shelf.Strconv.RangeError
import Derived.Shelf.Strconv.ToErrorRange
import Derived.Shelf.Strconv.ParseUintEmpty
import Derived.Shelf.Strconv.ParseUint10b64
import Derived.Shelf.Strconv.ParseUint10b32
import Derived.Shelf.Strconv.ParseUint10b16
import Derived.Shelf.Strconv.ParseUint10b8
import Derived.Shelf.Strconv.ParseUint10At
import Derived.Ground.MpProg
import Derived.Shelf.Pu.ParseUintPublic10
import Derived.Shelf.Pu.ErrVarParseUint
import Derived.Shelf.Strings.Search1
import Derived.Shelf.Strings.Search2
import Derived.Shelf.Strings.Cut
import Derived.Shelf.Strings.Shaped
import Derived.Shelf.Strings.Prefix
import Derived.Test.YtglfdihomfhmmaaGreatDoorProg
import Derived.Lib.AppendStr
import Derived.Lib.UnsafeStr
import Derived.Lib.ItoaMem
import Derived.Lib.ItoaLen
import Derived.Lib.Walk
import Derived.Lib.QuietBelow
import Derived.BigCall
import Derived.BigGuard
import Derived.Lib.ParseIntBCases
import Derived.Lib.AtoiErrMem
import Derived.Shelf.Spec.SlicesInsert
import Derived.Lib.AppendZerosOnto
import Derived.Laws.CopyRow
import Derived.Deep.RegionLaw
import Derived.Test.YtglfdihomfhmmaaGreatDoorRows
import Derived.WalkKit
import Derived.ProofKit
import Derived.OpenShut
import Derived.Deep.DeepHandedRow
import Derived.SizedLaws
import Derived.ChangeOld
import Derived.Deep.Slices
import Derived.Stop.LaidErr
import Derived.Test.YtglfdihomfhmmaaGreatDoorR3
set_option linter.unusedVariables false
set_option linter.unusedSimpArgs false
open List (length replicate getD drop take)
open Option.some (inj injEq)
open Int (toNat)
open Go.IntKind (wrap)
namespace Go.Proofs
open Go.Shelf
def Tryz.lays283_ren:Go.Shelf.Ren:=⟨fun|283=>223|n=>n,fun|3=>3|9=>9|4=>4|n=>n,fun|n=>n⟩
theorem Tryz.lays283:Go.Proofs.Lays.n283 Tryz.prog Tryz.lays283_ren:={
 mixed:=by kernel_rfl
 f283:=Tryz.func223.trans (congrArg some (by kernel_rfl))
 t3:=Tryz.underlying3
 a3:=Tryz.isAgg3
 z3:=Tryz.sizeOf3
 v3:=Tryz.zeroValue3
 t4:=Tryz.underlying4
 a4:=Tryz.isAgg4
 z4:=Tryz.sizeOf4
 v4:=Tryz.zeroValue4
 t9:=Tryz.underlying9
 a9:=Tryz.isAgg9
 z9:=Tryz.sizeOf9
 v9:=Tryz.zeroValue9 }
open Go.Lib in
theorem Tryz.internal_strconv_small (i:Nat) (h:i<100) (w:World) :
  Calls Tryz.prog 223 #[.int .i64 i] w fun e w'=>e=.returned (.string ⟨(Lib.decDigits i).toArray⟩)∧w'=w:=Any.internal_strconv_small Tryz.lays283 i h w
def Tryz.laysM284_ren:Go.Shelf.Ren:=⟨fun|284=>224|129=>243|317=>245|318=>246|n=>n,fun|53=>23|3=>3|212=>282|0=>0|4=>4|46=>257|5=>5|9=>9|n=>n,fun|17=>0|n=>n⟩
theorem Tryz.laysM284:Go.Proofs.LaysM.n284 Tryz.prog Tryz.laysM284_ren:={
 mixed:=by kernel_rfl
 f129:=Tryz.func243.trans (congrArg some (by kernel_rfl))
 f284:=Tryz.func224.trans (congrArg some (by kernel_rfl))
 f317:=Tryz.func245.trans (congrArg some (by kernel_rfl))
 f318:=Tryz.func246.trans (congrArg some (by kernel_rfl))
 t0:=Tryz.underlying0
 a0:=Tryz.isAgg0
 z0:=Tryz.sizeOf0
 v0:=Tryz.zeroValue0
 t3:=Tryz.underlying3
 a3:=Tryz.isAgg3
 z3:=Tryz.sizeOf3
 v3:=Tryz.zeroValue3
 t4:=Tryz.underlying4
 a4:=Tryz.isAgg4
 z4:=Tryz.sizeOf4
 v4:=Tryz.zeroValue4
 t5:=Tryz.underlying5
 a5:=Tryz.isAgg5
 z5:=Tryz.sizeOf5
 v5:=Tryz.zeroValue5
 t9:=Tryz.underlying9
 a9:=Tryz.isAgg9
 z9:=Tryz.sizeOf9
 v9:=Tryz.zeroValue9
 t46:=Tryz.underlying257
 a46:=Tryz.isAgg257
 z46:=Tryz.sizeOf257
 v46:=Tryz.zeroValue257
 t53:=Tryz.underlying23
 a53:=Tryz.isAgg23
 z53:=Tryz.sizeOf23
 v53:=Tryz.zeroValue23
 t212:=Tryz.underlying282
 a212:=Tryz.isAgg282
 z212:=Tryz.sizeOf282
 v212:=Tryz.zeroValue282
 g17:=by kernel_rfl
 i0:=by kernel_rfl
 i3:=by kernel_rfl
 i4:=by kernel_rfl
 i5:=by kernel_rfl
 i9:=by kernel_rfl
 i46:=by kernel_rfl
 i53:=by kernel_rfl
 i212:=by kernel_rfl
 m17:=by kernel_rfl }
open Go.Lib in
theorem Tryz.internal_strconv_numDigits (u : Nat) (h1 : 1 ≤ u) (h2 : u < 18446744073709551616) (w : World) (htab : Lib.TabIs Tryz.prog w "internal/strconv.uint64pow10" .u64 Lib.pow10Tab) :
  Calls Tryz.prog 224 #[.int .u64 u] w fun e w'=>e=.returned (.int .i64 (Lib.nDigits u))∧w'=w:=Any.internal_strconv_numDigits Tryz.laysM284 u h1 h2 w htab
def Tryz.lays285_ren:Go.Shelf.Ren:=⟨fun|285=>225|n=>n,fun|37=>214|53=>23|3=>3|4=>4|51=>31|9=>9|5=>5|0=>0|n=>n,fun|n=>n⟩
theorem Tryz.lays285:Go.Proofs.Lays.n285 Tryz.prog Tryz.lays285_ren:={
 mixed:=by kernel_rfl
 f285:=Tryz.func225.trans (congrArg some (by kernel_rfl))
 t0:=Tryz.underlying0
 a0:=Tryz.isAgg0
 z0:=Tryz.sizeOf0
 v0:=Tryz.zeroValue0
 t3:=Tryz.underlying3
 a3:=Tryz.isAgg3
 z3:=Tryz.sizeOf3
 v3:=Tryz.zeroValue3
 t4:=Tryz.underlying4
 a4:=Tryz.isAgg4
 z4:=Tryz.sizeOf4
 v4:=Tryz.zeroValue4
 t5:=Tryz.underlying5
 a5:=Tryz.isAgg5
 z5:=Tryz.sizeOf5
 v5:=Tryz.zeroValue5
 t9:=Tryz.underlying9
 a9:=Tryz.isAgg9
 z9:=Tryz.sizeOf9
 v9:=Tryz.zeroValue9
 t37:=Tryz.underlying214
 a37:=Tryz.isAgg214
 z37:=Tryz.sizeOf214
 v37:=Tryz.zeroValue214
 t51:=Tryz.underlying31
 a51:=Tryz.isAgg31
 z51:=Tryz.sizeOf31
 v51:=Tryz.zeroValue31
 t53:=Tryz.underlying23
 a53:=Tryz.isAgg23
 z53:=Tryz.sizeOf23
 v53:=Tryz.zeroValue23 }
open Go.RowKit Go.Sort Go.Lib in
theorem Tryz.internal_strconv_formatBase10 (blk off cap:Nat) (u:Nat) (d:Array UInt8) (w:World) (hH:Holds (fun (b:UInt8)=>Value.int .u8 (b.toNat:Int)) w blk off d) (hu:u<10^d.size) (hu64:u<18446744073709551616) (hsz:d.size<4611686018427387904) :
  Calls Tryz.prog 225 #[.slice (some ⟨blk,off,none⟩) d.size cap,.int .u64 u] w fun e w' =>
   e=.returned (.tuple #[])∧∃(n v':Nat) (dk:Array UInt8),w'=(putRow (fun (b:UInt8)=>Value.int .u8 (b.toNat:Int)) w blk off dk).drewN n∧FmtInv d.size u 0 v' dk:=Any.internal_strconv_formatBase10 Tryz.lays285 blk off cap u d w hH hu hu64 hsz
def Tryz.laysPu14_ren:Go.Shelf.Ren:=⟨fun|14=>229|16=>250|17=>251|19=>264|20=>265|21=>266|22=>267|23=>268|24=>269|25=>273|27=>162|26=>274|28=>201|29=>222|30=>223|31=>224|32=>225|33=>226|35=>243|34=>245|36=>246|37=>247|38=>248|39=>258|40=>259|n=>n,fun|9=>9|3=>3|22=>23|24=>218|25=>267|4=>4|34=>293|5=>5|36=>257|37=>214|0=>0|39=>296|21=>21|44=>308|47=>243|50=>312|48=>310|2=>2|52=>262|55=>265|59=>282|60=>31|20=>20|61=>283|65=>302|66=>303|67=>223|n=>n,fun|0=>4|1=>5|2=>0|3=>2|4=>3|n=>n⟩
theorem Tryz.laysPu14:Go.Proofs.LaysPu.n14 Tryz.prog Tryz.laysPu14_ren:={
 mixed:=by kernel_rfl
 f14:=Tryz.func229.trans (congrArg some (by kernel_rfl))
 f16:=Tryz.func250.trans (congrArg some (by kernel_rfl))
 f17:=Tryz.func251.trans (congrArg some (by kernel_rfl))
 f19:=Tryz.func264.trans (congrArg some (by kernel_rfl))
 f20:=Tryz.func265.trans (congrArg some (by kernel_rfl))
 f21:=Tryz.func266.trans (congrArg some (by kernel_rfl))
 f22:=Tryz.func267.trans (congrArg some (by kernel_rfl))
 f23:=Tryz.func268.trans (congrArg some (by kernel_rfl))
 f24:=Tryz.func269.trans (congrArg some (by kernel_rfl))
 f25:=Tryz.func273.trans (congrArg some (by kernel_rfl))
 f26:=Tryz.func274.trans (congrArg some (by kernel_rfl))
 f27:=Tryz.func162.trans (congrArg some (by kernel_rfl))
 f28:=Tryz.func201.trans (congrArg some (by kernel_rfl))
 f29:=Tryz.func222.trans (congrArg some (by kernel_rfl))
 f30:=Tryz.func223.trans (congrArg some (by kernel_rfl))
 f31:=Tryz.func224.trans (congrArg some (by kernel_rfl))
 f32:=Tryz.func225.trans (congrArg some (by kernel_rfl))
 f33:=Tryz.func226.trans (congrArg some (by kernel_rfl))
 f34:=Tryz.func245.trans (congrArg some (by kernel_rfl))
 f35:=Tryz.func243.trans (congrArg some (by kernel_rfl))
 f36:=Tryz.func246.trans (congrArg some (by kernel_rfl))
 f37:=Tryz.func247.trans (congrArg some (by kernel_rfl))
 f38:=Tryz.func248.trans (congrArg some (by kernel_rfl))
 f39:=Tryz.func258.trans (congrArg some (by kernel_rfl))
 f40:=Tryz.func259.trans (congrArg some (by kernel_rfl))
 t0:=Tryz.underlying0
 a0:=Tryz.isAgg0
 z0:=Tryz.sizeOf0
 v0:=Tryz.zeroValue0
 i0:=by kernel_rfl
 t2:=Tryz.underlying2
 a2:=Tryz.isAgg2
 z2:=Tryz.sizeOf2
 v2:=Tryz.zeroValue2
 i2:=by kernel_rfl
 t3:=Tryz.underlying3
 a3:=Tryz.isAgg3
 z3:=Tryz.sizeOf3
 v3:=Tryz.zeroValue3
 i3:=by kernel_rfl
 t4:=Tryz.underlying4
 a4:=Tryz.isAgg4
 z4:=Tryz.sizeOf4
 v4:=Tryz.zeroValue4
 i4:=by kernel_rfl
 t5:=Tryz.underlying5
 a5:=Tryz.isAgg5
 z5:=Tryz.sizeOf5
 v5:=Tryz.zeroValue5
 i5:=by kernel_rfl
 t9:=Tryz.underlying9
 a9:=Tryz.isAgg9
 z9:=Tryz.sizeOf9
 v9:=Tryz.zeroValue9
 i9:=by kernel_rfl
 t20:=Tryz.underlying20
 a20:=Tryz.isAgg20
 z20:=Tryz.sizeOf20
 v20:=Tryz.zeroValue20
 i20:=by kernel_rfl
 t21:=Tryz.underlying21
 a21:=Tryz.isAgg21
 z21:=Tryz.sizeOf21
 v21:=Tryz.zeroValue21
 i21:=by kernel_rfl
 t22:=Tryz.underlying23
 a22:=Tryz.isAgg23
 z22:=Tryz.sizeOf23
 v22:=Tryz.zeroValue23
 i22:=by kernel_rfl
 t24:=Tryz.underlying218
 a24:=Tryz.isAgg218
 z24:=Tryz.sizeOf218
 v24:=Tryz.zeroValue218
 i24:=by kernel_rfl
 t25:=Tryz.underlying267
 a25:=Tryz.isAgg267
 z25:=Tryz.sizeOf267
 v25:=Tryz.zeroValue267
 i25:=by kernel_rfl
 t34:=Tryz.underlying293
 a34:=Tryz.isAgg293
 z34:=Tryz.sizeOf293
 v34:=Tryz.zeroValue293
 i34:=by kernel_rfl
 c34:=by kernel_rfl
 t36:=Tryz.underlying257
 a36:=Tryz.isAgg257
 z36:=Tryz.sizeOf257
 v36:=Tryz.zeroValue257
 i36:=by kernel_rfl
 t37:=Tryz.underlying214
 a37:=Tryz.isAgg214
 z37:=Tryz.sizeOf214
 v37:=Tryz.zeroValue214
 i37:=by kernel_rfl
 t39:=Tryz.underlying296
 a39:=Tryz.isAgg296
 z39:=Tryz.sizeOf296
 v39:=Tryz.zeroValue296
 i39:=by kernel_rfl
 t44:=Tryz.underlying308
 a44:=Tryz.isAgg308
 z44:=Tryz.sizeOf308
 v44:=Tryz.zeroValue308
 i44:=by kernel_rfl
 t47:=Tryz.underlying243
 a47:=Tryz.isAgg243
 z47:=Tryz.sizeOf243
 v47:=Tryz.zeroValue243
 i47:=by kernel_rfl
 t48:=Tryz.underlying310
 a48:=Tryz.isAgg310
 z48:=Tryz.sizeOf310
 v48:=Tryz.zeroValue310
 i48:=by kernel_rfl
 t50:=Tryz.underlying312
 a50:=Tryz.isAgg312
 z50:=Tryz.sizeOf312
 v50:=Tryz.zeroValue312
 i50:=by kernel_rfl
 t52:=Tryz.underlying262
 a52:=Tryz.isAgg262
 z52:=Tryz.sizeOf262
 v52:=Tryz.zeroValue262
 i52:=by kernel_rfl
 t55:=Tryz.underlying265
 a55:=Tryz.isAgg265
 z55:=Tryz.sizeOf265
 v55:=Tryz.zeroValue265
 i55:=by kernel_rfl
 t59:=Tryz.underlying282
 a59:=Tryz.isAgg282
 z59:=Tryz.sizeOf282
 v59:=Tryz.zeroValue282
 i59:=by kernel_rfl
 t60:=Tryz.underlying31
 a60:=Tryz.isAgg31
 z60:=Tryz.sizeOf31
 v60:=Tryz.zeroValue31
 i60:=by kernel_rfl
 t61:=Tryz.underlying283
 a61:=Tryz.isAgg283
 z61:=Tryz.sizeOf283
 t65:=Tryz.underlying302
 a65:=Tryz.isAgg302
 z65:=Tryz.sizeOf302
 v65:=Tryz.zeroValue302
 i65:=by kernel_rfl
 t66:=Tryz.underlying303
 a66:=Tryz.isAgg303
 z66:=Tryz.sizeOf303
 v66:=Tryz.zeroValue303
 i66:=by kernel_rfl
 t67:=Tryz.underlying223
 a67:=Tryz.isAgg223
 z67:=Tryz.sizeOf223
 v67:=Tryz.zeroValue223
 i67:=by kernel_rfl
 g0:=by kernel_rfl
 m0:=by kernel_rfl
 g1:=by kernel_rfl
 m1:=by kernel_rfl
 g2:=by kernel_rfl
 m2:=by kernel_rfl
 g3:=by kernel_rfl
 m3:=by kernel_rfl
 g4:=by kernel_rfl
 m4:=by kernel_rfl }
open Go.RowKit in
theorem Tryz.strconv_ParseUint_10_at64_ok (s:ByteArray) (hmax:s.size≤9223372036854775806) (u:Nat) (h:Lib.parseUintB 64 s.data.toList=.ok u) (w:World) :
  Calls Tryz.prog 229 #[.string s,.int .i64 10,.int .i64 64] w fun e w'=>e=.returned (.tuple #[.int .u64 u,.nilIface])∧(w'=w∨w'=Lib.bytesWorld w 5 s):=Any.strconv_ParseUint_10_at64_ok Tryz.laysPu14 s hmax u h w
open Go.RowKit in
theorem Tryz.strconv_ParseUint_10_at64_syntax (s:ByteArray) (hlim:s.size≤281474976710656) (h:Lib.parseUintB 64 s.data.toList=Lib.parseUintB 64 []) (ev:Value) (w:World) (hv:w.cell? ⟨4,0,none⟩=some ev) (hev:ev=.nilIface∨∃te pe,ev=.iface te pe) :
  Calls Tryz.prog 229 #[.string s,.int .i64 10,.int .i64 64] w fun e w'=>∃N,e=.returned (.tuple #[.int .u64 0,.iface 296 (.pointer (some ⟨N,0,none⟩))])∧w.heap.size≤N∧w'.heap[N]?=some (.cells #[.string ⟨#[80,97,114,115,101,85,105,110,116]⟩,.string s,ev] 308 (0,0))∧Below w.heap.size w w':=Any.strconv_ParseUint_10_at64_syntax Tryz.laysPu14 s hlim h ev w hv hev
open Go.RowKit in
theorem Tryz.strconv_ParseUint_10_at64_range (s:ByteArray) (hlim:s.size≤281474976710656) (h:Lib.parseUintB 64 s.data.toList=.range) (ev:Value) (w:World) (hv:w.cell? ⟨5,0,none⟩=some ev) (hev:ev=.nilIface∨∃te pe,ev=.iface te pe) :
  Calls Tryz.prog 229 #[.string s,.int .i64 10,.int .i64 64] w fun e w'=>∃N,e=.returned (.tuple #[.int .u64 18446744073709551615,.iface 296 (.pointer (some ⟨N,0,none⟩))])∧w.heap.size≤N∧w'.heap[N]?=some (.cells #[.string ⟨#[80,97,114,115,101,85,105,110,116]⟩,.string s,ev] 308 (0,0))∧Below w.heap.size w w':=Any.strconv_ParseUint_10_at64_range Tryz.laysPu14 s hlim h ev w hv hev
def Tryz.lays219_ren:Go.Shelf.Ren:=⟨fun|219=>249|217=>260|225=>261|224=>262|267=>263|266=>271|314=>272|n=>n,fun|9=>9|3=>3|4=>4|5=>5|46=>257|146=>304|51=>31|n=>n,fun|1=>1|n=>n⟩
theorem Tryz.lays219:Go.Proofs.Lays.n219 Tryz.prog Tryz.lays219_ren:={
 mixed:=by kernel_rfl
 f217:=Tryz.func260.trans (congrArg some (by kernel_rfl))
 f219:=Tryz.func249.trans (congrArg some (by kernel_rfl))
 f224:=Tryz.func262.trans (congrArg some (by kernel_rfl))
 f225:=Tryz.func261.trans (congrArg some (by kernel_rfl))
 f266:=Tryz.func271.trans (congrArg some (by kernel_rfl))
 f267:=Tryz.func263.trans (congrArg some (by kernel_rfl))
 f314:=Tryz.func272.trans (congrArg some (by kernel_rfl))
 t3:=Tryz.underlying3
 a3:=Tryz.isAgg3
 z3:=Tryz.sizeOf3
 v3:=Tryz.zeroValue3
 t4:=Tryz.underlying4
 a4:=Tryz.isAgg4
 z4:=Tryz.sizeOf4
 v4:=Tryz.zeroValue4
 t5:=Tryz.underlying5
 a5:=Tryz.isAgg5
 z5:=Tryz.sizeOf5
 v5:=Tryz.zeroValue5
 t9:=Tryz.underlying9
 a9:=Tryz.isAgg9
 z9:=Tryz.sizeOf9
 v9:=Tryz.zeroValue9
 t46:=Tryz.underlying257
 a46:=Tryz.isAgg257
 z46:=Tryz.sizeOf257
 v46:=Tryz.zeroValue257
 t51:=Tryz.underlying31
 a51:=Tryz.isAgg31
 z51:=Tryz.sizeOf31
 v51:=Tryz.zeroValue31
 t146:=Tryz.underlying304
 a146:=Tryz.isAgg304
 z146:=Tryz.sizeOf304
 v146:=Tryz.zeroValue304
 g1:=by kernel_rfl }
open Go.RowKit Go.Lib in
theorem Tryz.stringslite_Index_one (s:ByteArray) (c:UInt8) (w:World) :
  Calls Tryz.prog 249 #[.string s,.string ⟨#[c]⟩] w fun e w'=>e=.returned (.int .i64 (Lib.indexByte s.data.toList c))∧w'=w:=Any.stringslite_Index_one Tryz.lays219 s c w
end Go.Proofs
namespace Go.Proofs.YtglfdihomfhmmaaGreatDoor
open Go.Shelf Go.RowKit
theorem equalIn_ptr {P:Program} (D:Nat) {t e:TypeId} (ht:P.underlying t=some (.pointer e)) (p:Option Addr) (w:World):(Op.equalIn (D+1) t (.pointer p) (.pointer none)).run P w=.ok p.isNone w:=by
 cases p<;>simp [Op.equalIn,run_underlying ht]
theorem equal_ptr {P:Program} {t e:TypeId} (ht:P.underlying t=some (.pointer e)) (p:Option Addr) (w:World):(Op.equal t (.pointer p) (.pointer none)).run P w=.ok p.isNone w :=
 equalIn_ptr 9999 ht p w
class BldT (T:TypeId):Prop where
 fresh:∀(g:Nat) (w:World),w.cell? ⟨g,0,none⟩=some (.pointer none)→w.shape? g=some (T,2)→w.frozen? ⟨g,0,none⟩=false →
  Calls Tryz.prog 200 #[.pointer (some ⟨g,0,none⟩)] w fun e w'=>e=.returned (.tuple #[])∧w'=w.setCell ⟨g,0,none⟩ (.pointer (some ⟨g,0,none⟩))
set_option maxHeartbeats 1000000 in
set_option maxRecDepth 100000 in
instance:BldT 216:=⟨fun g w h0 hsh hfz=>by
 go_enter Tryz.func200,Tryz.ntmps200
 have e1:=equal_ptr (P:=Tryz.prog) Tryz.underlying213 none w
 have hj:Tryz.prog.info? 216=some Tryz.t216:=by kernel_rfl
 go_wp2
 rw [Lib.run_to_unsafe w ⟨g,0,none⟩ Tryz.underlying213 Tryz.underlying259 hj (by decide) hsh (Nat.zero_lt_succ 1)]
 simp only [Result.andThen]
 rw [Oper.upon_value]
 go_wp2
 have hne:(callFunc 221 #[.pointer (some ⟨g,0,none⟩)]).run Tryz.prog w=.ok (.value (.pointer (some ⟨g,0,none⟩))) w:=by kernel_rfl
 rw [hne]
 rw [Oper.upon_value]
 go_wp2
 rw [Lib.run_from_unsafe w ⟨g,0,none⟩ Tryz.underlying259 Tryz.underlying213 hj hsh (by kernel_rfl)]
 simp only [Result.andThen]
 rw [Oper.upon_value]
 go_wp2
 go_end0
 exact ⟨rfl,rfl⟩⟩
end Go.Proofs.YtglfdihomfhmmaaGreatDoor
namespace Go.Proofs.YtglfdihomfhmmaaGreatDoor
open Go.Shelf Go.RowKit Go.Sort Go.Lib
theorem gl_tab {M : Fz} {w : World} (h : Over M w) : Lib.TabIs Tryz.prog w "internal/strconv.uint64pow10" .u64 Lib.pow10Tab := by
 have h1:=h.gl.tab _ (List.mem_singleton.2 rfl)
 obtain ⟨t,fr,e⟩:=h.cells _ _ h1
 have hg : Tryz.prog.globalNamed "internal/strconv.uint64pow10" = some ((Tryz.prog.globalNamed "internal/strconv.uint64pow10").getD 0) := by kernel_rfl
 unfold TabIs World.var?
 rw [hg]
 simp only [Option.bind_some]
 simp only at e
 rw [e]
 rfl
theorem below_grow (w:World) (k:Nat) (os:Array Obj):RowKit.Below w.heap.size w (grow (w.drewN k) os):=by
 have:=below_regrown w 0 #[]
 refine ⟨rfl,rfl,rfl,?_,fun g hg=>?_⟩
 ·simp [grow]
 ·simp [grow,Array.getElem?_append_left hg]
theorem holds_zero0 (w:World) (T:TypeId) (nd:Nat) (hs:nd≤24):Holds (fun (b:UInt8)=>Value.int .u8 (b.toNat:Int)) (w.alloc (.cells zeros24 T)) w.heap.size 0 (Array.replicate nd (0:UInt8)):=fun j hj=>by
 have hj':j<nd:=by simpa using hj
 refine ⟨?_,World.frozen?_alloc_new _ _ _ _⟩
 rw [World.cell?_alloc_new,zeros24_at _ (by omega),getElem!_pos _ j hj]
 simp
theorem fin_pos0 (w:World) (o:Obj) (dk:Array UInt8) (k:Nat):∃os,(putRow (fun (b:UInt8)=>Value.int .u8 (b.toNat:Int)) (w.alloc o) w.heap.size 0 dk).drewN k=grow (w.drewN k) os:=by
 rw [alloc_eq_grow]
 obtain ⟨os',_,e⟩:=putRow_grow_new (fun (b:UInt8)=>Value.int .u8 (b.toNat:Int)) w #[o] w.heap.size 0 dk (Nat.le_refl _)
 exact ⟨os',by rw [e];rfl⟩
set_option maxHeartbeats 6400000 in
set_option maxRecDepth 100000 in
theorem w_FormatUintIn (u : Nat) (hu64 : u < 18446744073709551616) (w : World) (htab : Lib.TabIs Tryz.prog w "internal/strconv.uint64pow10" .u64 Lib.pow10Tab) :
  Calls Tryz.prog 202 #[.int .u64 u,.int .i64 10] w fun e w'=>e=.returned (.string ⟨(Lib.decDigits u).toArray⟩)∧∃k os,w'=grow (w.drewN k) os:=by
 by_cases hs:u<100
 ·go_enter Tryz.func202,Tryz.ntmps202
  have hcv:IntKind.i64.wrap (u:Int)=(u:Int):=by rw [IntKind.wrap_i64];omega
  go_wp2_with fail
  refine (Tryz.internal_strconv_small u hs _).mono ?_
  rintro e w' ⟨rfl,rfl⟩
  go_wp2
  go_ret
  exact ⟨rfl,0,#[],by simp [World.drewN_zero]⟩
 ·have hu1:1≤u:=by omega
  have hnd20:Lib.nDigits u≤20:=by have:=Lib.numDigits_eq u hu1 hu64;split at this<;>omega
  have hal:Tryz.prog.arrayLen 262=24:=by simp [Program.arrayLen,Tryz.underlying262]
  have hsl1:∀W,(Instr.sliceAt 262 (.pointer (some ⟨w.heap.size,0,none⟩)) none (some (.int .i64 (Lib.nDigits u:Int))) none).run Tryz.prog W=.ok (.slice (some ⟨w.heap.size,0,none⟩) (Lib.nDigits u) 24) W:=fun W=>by
   rw [run_sliceAt_array_h W 262 ⟨w.heap.size,0,none⟩ (by simp [Program.arrayLen,Program.elem,Tryz.underlying262]) .i64 (Lib.nDigits u:Int) (by omega) (by rw [hal];omega)]
   go_simp
  have hH0:=holds_zero0 w 262 (Lib.nDigits u) (by omega)
  have hfmt:=Tryz.internal_strconv_formatBase10 w.heap.size 0 24 u (Array.replicate (Lib.nDigits u) 0) (w.alloc (.cells Lib.zeros24 262)) hH0 (by rw [Array.size_replicate];exact Lib.lt_pow_nDigits u) hu64 (by rw [Array.size_replicate];omega)
  rw [Array.size_replicate] at hfmt
  have HH0:=Lib.hid hH0
  clear hH0 hal
  go_enter Tryz.func202,Tryz.ntmps202
  go_wp2_with fail
  refine (Tryz.internal_strconv_numDigits u hu1 hu64 _ (Lib.tabIs_alloc htab _)).mono ?_
  rintro e w' ⟨rfl,rfl⟩
  go_wp2_with fail
  refine hfmt.mono ?_
  rintro e w' ⟨rfl,k,v',dk,rfl,hF⟩
  have hcv:(convert 214 9 (.slice (some ⟨w.heap.size,0,none⟩) (Lib.nDigits u) 24)).run Tryz.prog ((putRow (fun (b:UInt8)=>Value.int .u8 (b.toNat:Int)) (w.alloc (.cells Lib.zeros24 262)) w.heap.size 0 dk).drewN k)=.ok (.string ⟨(Lib.decDigits u).toArray⟩) ((putRow (fun (b:UInt8)=>Value.int .u8 (b.toNat:Int)) (w.alloc (.cells Lib.zeros24 262)) w.heap.size 0 dk).drewN k):=by
   have h:=run_convert_bytes_back (P:=Tryz.prog) ((putRow (fun (b:UInt8)=>Value.int .u8 (b.toNat:Int)) (w.alloc (.cells Lib.zeros24 262)) w.heap.size 0 dk).drewN k) 214 9 5 ⟨w.heap.size,0,none⟩ 24 (Lib.decDigits u) Tryz.underlying214 Tryz.underlying5 Tryz.underlying9 (fun j hj=>by
    rw [Lib.row_is_numeral hF j hj,Lib.add_plain,World.cell?_drewN]
    exact cell?_putRow (fun (b:UInt8)=>Value.int .u8 (b.toNat:Int)) _ w.heap.size 0 _ dk HH0.out (by rw [hF.size,Array.size_replicate]) j (by rw [hF.size];rw [Lib.decDigits_length] at hj;exact hj))
   rw [Lib.decDigits_length] at h
   exact h
  go_wp2
  go_ret
  obtain ⟨os,eo⟩:=fin_pos0 w (.cells Lib.zeros24 262) dk k
  exact ⟨rfl,k,os,eo⟩
theorem pure_grow {f:FuncId} {l:List AVal} {x:Str} (he:Enters Tryz.prog f) (hx:x.length≤maxLen) (h:∀(w:World) (M:Fz) (us:List Value),Over M w→RelVs Tryz.prog M φ0 l us→Calls Tryz.prog f us.toArray w fun e w'=>e=.returned (.string (bs x))∧∃k os,w'=grow (w.drewN k) os):Pure Tryz.prog f l (.v .str x) :=
 ⟨he,fun w M us ho hr=>(h w M us ho hr).mono (by
  rintro e w' ⟨rfl,k,os,rfl⟩
  have hb:=below_grow w k os
  refine ⟨M,_,rfl,hb,Fz.le_refl _,fun _ _=>rfl,⟨fun g c hg=>?_,ho.gl⟩,rfl,[.string (bs x)],rfl,rfl,hx⟩
  obtain ⟨t,fr,e⟩:=ho.cells g c hg
  exact ⟨t,fr,(hb.block g (Array.getElem?_eq_some_iff.1 e).1).trans e⟩)⟩
def F_internal_strconv_FormatUint (x0 x1:Int):Option Str:=if x1=10 then some (Lib.decDigits x0.toNat) else none
theorem int_of {M:Fz} {k:IntKind} {x:Int} {u:Value} (h:RelV Tryz.prog M φ0 (.v (.int k) x) u):u=.int k x∧k.has x:=by
 obtain ⟨_,cs,rfl,rfl,h⟩:=h
 exact ⟨rfl,h⟩
theorem W_internal_strconv_FormatUint {x0 x1:Int} {y:Str} (F0:F_internal_strconv_FormatUint x0 x1=some y):Pure Tryz.prog 202 [vu x0,vi x1] (.v .str y):=by
 unfold F_internal_strconv_FormatUint at F0
 split at F0
 ·rename_i e
  subst e
  obtain rfl:=inj F0
  by_cases hh:IntKind.u64.has x0
  ·have h1:0≤x0∧x0≤18446744073709551615:=by simpa [IntKind.has,IntKind.min,IntKind.max,IntKind.signed,IntKind.bits] using hh
   refine pure_grow Tryz.call202 (by have:=Lib.nDigits_le20 x0.toNat (by omega);rw [Lib.decDigits_length];unfold maxLen;omega) fun w M us ho hr=>?_
   obtain ⟨u,r,rfl,hu,u2,r2,rfl,hu2,hr2⟩:=hr
   have hr2:r2=[]:=hr2
   subst hr2
   obtain ⟨rfl,_⟩:=int_of hu
   obtain ⟨rfl,_⟩:=int_of hu2
   have:=w_FormatUintIn x0.toNat (by omega) w (gl_tab ho)
   rw [Int.toNat_of_nonneg h1.1] at this
   exact this
  ·refine ⟨Tryz.call202,fun w M us ho hr=>?_⟩
   obtain ⟨u,r,rfl,hu,hr2⟩:=hr
   exact absurd (int_of hu).2 hh
 ·cases F0
end Go.Proofs.YtglfdihomfhmmaaGreatDoor
namespace Go.Proofs.YtglfdihomfhmmaaGreatDoor
open Go.Shelf Go.RowKit
theorem str_ofX {P:Program} {M:Fz} {x:Str} {u:Value} (h:RelV P M φ0 (.v .str x) u):u=.string (bs x)∧x.length≤maxLen:=by
 obtain ⟨_,cs,rfl,rfl,h⟩:=h
 exact ⟨rfl,h⟩
theorem indexByte_le (l:List UInt8) (c:UInt8):Lib.indexByte l c≤(l.length:Int):=by
 induction l with
 | nil=>simp [Lib.indexByte]
 | cons b l ih =>
  simp only [Lib.indexByte]
  split
  ·simp only [List.length_cons];omega
  ·split
   ·simp only [List.length_cons];omega
   ·simp only [List.length_cons];omega
def F_internal_stringslite_Index (x0 x1:Str):Option Int:=match x1 with
 | [c]=>if x0.length≤281474976710656 then some (Lib.indexByte x0 c) else none
 | _=>none
theorem W_internal_stringslite_Index {x0 x1:Str} {y:Int} (F0:F_internal_stringslite_Index x0 x1=some y):Pure Tryz.prog 249 [vs x0,vs x1] (vi y):=by
 unfold F_internal_stringslite_Index at F0
 split at F0
 ·rename_i c
  split at F0
  ·rename_i hl
   obtain rfl:=inj F0
   refine ⟨Tryz.call249,fun w M us ho hr=>?_⟩
   obtain ⟨u,r,rfl,hu,u2,r2,rfl,hu2,hr2⟩:=hr
   have hr2:r2=[]:=hr2
   subst hr2
   obtain ⟨rfl,_⟩:=str_ofX hu
   obtain ⟨rfl,_⟩:=str_ofX hu2
   refine (Tryz.stringslite_Index_one (bs x0) c w).mono ?_
   rintro e w' ⟨rfl,rfl⟩
   have h1:=Lib.indexByte_ge (bs x0).data.toList c
   have h2:=indexByte_le (bs x0).data.toList c
   have h3:(bs x0).data.toList=x0:=by simp [bs]
   rw [h3] at h1 h2⊢
   exact ⟨M,_,rfl,Below.refl _ _,Fz.le_refl _,fun _ _=>rfl,ho,rfl,_,rfl,rfl,(by
    have q1:IntKind.i64.min=-9223372036854775808:=by decide
    have q2:IntKind.i64.max=9223372036854775807:=by decide
    exact ⟨by rw [q1];omega,by rw [q2];omega⟩)⟩
  ·cases F0
 ·cases F0
def puV (x:Str):Int×Bool:=match Lib.parseUintB 64 x with
 | .ok u=>(u,true)
 | .range=>(18446744073709551615,false)
 | _=>(0,false)
def F_strconv_ParseUint (x0:Str) (x1 x2:Int):Option (Int×Bool):=if x1=10∧x2=64∧x0.length≤281474976710656 then some (puV x0) else none
theorem gl_err {M:Fz} {w:World} (h:Over M w) {g:Nat} (hg:g∈GLe):∃ev,w.cell? ⟨g,0,none⟩=some ev∧(ev=.nilIface∨∃te pe,ev=.iface te pe):=by
 obtain ⟨c,u,h1,h2,h3⟩:=h.gl.err g hg
 obtain ⟨t,fr,e⟩:=h.cells _ _ h1
 exact ⟨u,by simp [World.cell?,e,h2],h3⟩
theorem over_below {M:Fz} {w w':World} (ho:Over M w) (hb:RowKit.Below w.heap.size w w'):Over M w':=⟨fun g c hg=>by
 obtain ⟨t,fr,e⟩:=ho.cells g c hg
 exact ⟨t,fr,(hb.block g (Array.getElem?_eq_some_iff.1 e).1).trans e⟩,ho.gl⟩
theorem int_ofX {P:Program} {M:Fz} {k:IntKind} {x:Int} {u:Value} (h:RelV P M φ0 (.v (.int k) x) u):u=.int k x∧k.has x:=by
 obtain ⟨_,cs,rfl,rfl,h⟩:=h
 exact ⟨rfl,h⟩
theorem W_strconv_ParseUint {x0:Str} {x1 x2:Int} {y:Int×Bool} (F0:F_strconv_ParseUint x0 x1 x2=some y):Pure Tryz.prog 229 [vs x0,vi x1,vi x2] (.tup [vu y.1,.ifc y.2]):=by
 unfold F_strconv_ParseUint at F0
 split at F0
 ·rename_i hl
  obtain ⟨rfl,rfl,hl⟩:=hl
  obtain rfl:=inj F0
  refine ⟨Tryz.call229,fun w M us ho hr=>?_⟩
  obtain ⟨u,r,rfl,hu,u2,r2,rfl,hu2,u3,r3,rfl,hu3,hr3⟩:=hr
  have hr3:r3=[]:=hr3
  subst hr3
  obtain ⟨rfl,_⟩:=str_ofX hu
  obtain ⟨rfl,_⟩:=int_ofX hu2
  obtain ⟨rfl,_⟩:=int_ofX hu3
  have e0:(bs x0).data.toList=x0:=by simp [bs]
  have hsz:(bs x0).size≤281474976710656:=by rw [bs_size];exact hl
  have fin:∀w' (n:Nat) (z:Bool) (v:Value),n≤18446744073709551615→RowKit.Below w.heap.size w w'→((z=true∧v=.nilIface)∨(z=false∧∃t p,v=.iface t p)) →
    ∃M' v',Ending.returned (.tuple #[.int .u64 n,v])=.returned v'∧RowKit.Below w.heap.size w w'∧M.le M'∧(∀g,g<w.heap.size→M' g=M g)∧Over M' w'∧RelV Tryz.prog M' φ0 (.tup [vu n,.ifc z]) v':=fun w' n z v hn hb hv =>
   ⟨M,_,rfl,hb,Fz.le_refl _,fun _ _=>rfl,over_below ho hb,[.int .u64 n,v],rfl,_,_,rfl,⟨rfl,_,rfl,rfl,(by
    have q1:IntKind.u64.min=0:=by decide
    have q2:IntKind.u64.max=18446744073709551615:=by decide
    exact ⟨by rw [q1];omega,by rw [q2];omega⟩)⟩,_,_,rfl,hv,rfl⟩
  unfold puV
  rcases hp:Lib.parseUintB 64 x0 with n|_|_
  ·have hle:=Lib.parseUintB_le hp
   refine (Tryz.strconv_ParseUint_10_at64_ok (bs x0) (by omega) n (by rw [e0];exact hp) w).mono ?_
   rintro e w' ⟨rfl,hw⟩
   refine fin w' n true _ (by omega) ?_ (.inl ⟨rfl,rfl⟩)
   rcases hw with rfl|rfl
   ·exact RowKit.Below.refl _ _
   ·exact Lib.bytesWorld_below _ _ _
  ·obtain ⟨ev,h1,h2⟩:=gl_err ho (List.mem_cons_self ..)
   refine (Tryz.strconv_ParseUint_10_at64_syntax (bs x0) hsz (by rw [e0];exact hp.trans rfl) ev w h1 h2).mono ?_
   rintro e w' ⟨N,rfl,_,_,hb⟩
   exact fin w' 0 false _ (by omega) hb (.inr ⟨rfl,_,_,rfl⟩)
  ·obtain ⟨ev,h1,h2⟩:=gl_err ho (List.mem_cons_of_mem _ (List.mem_cons_self ..))
   refine (Tryz.strconv_ParseUint_10_at64_range (bs x0) hsz (by rw [e0];exact hp) ev w h1 h2).mono ?_
   rintro e w' ⟨N,rfl,_,_,hb⟩
   exact fin w' 18446744073709551615 false _ (by omega) hb (.inr ⟨rfl,_,_,rfl⟩)
 ·cases F0
end Go.Proofs.YtglfdihomfhmmaaGreatDoor
namespace Go.Proofs.YtglfdihomfhmmaaGreatDoor
open Go.RowKit
set_option maxHeartbeats 4000000 in
set_option maxRecDepth 100000 in
theorem D0_try:Def0 Tryz.prog 65 1:=by
 intro us w hl
 obtain ⟨u,rfl⟩:=List.length_eq_one_iff.1 hl
 refine callsD_of_wpS Tryz.func65 rfl fun c₀ cs hu=>?_
 apply wpS_seq
 apply wpS_region
 simp [wpOpsS,go_sem,recoverD,hu,Tryz.ntmps65,Exit.thenS]
 apply wpS_seq
 apply wpS_region
 simp [wpOpsS,go_sem,recoverD,hu,Tryz.ntmps65,Exit.thenS]
 refine wpS_cond (t:=false) (by simp [Act.eval]) ?_
 refine wpS_of_wp (wp_skip ?_)
 refine ⟨rfl,.returning,?_,.tuple #[],?_,⟨_,rfl⟩,rfl,rfl⟩
 ·rw [← hu]
 ·simp [results,Tryz.results65]
set_option maxHeartbeats 4000000 in
set_option maxRecDepth 100000 in
theorem D1_try0 (u:Value) (w:World) (n:Int) (g:Nat) (hu0:u=.pointer (some ⟨g,0,none⟩)) (x:Value) (hg:w.heap[g]?=some (.cells #[x] 41 (0,0))):CallsD Tryz.prog 65 #[u] (.panicking [{ v:=.iface 131 (.agg #[.int .i64 n]),recovered:=false }]) w fun e u' w'=>(∃v,e=.returned v)∧u'=.panicking [{ v:=.iface 131 (.agg #[.int .i64 n]),recovered:=true }]∧w'=(w.alloc (.cells #[.int .i64 n] 131)).setCell ⟨g,0,none⟩ (.int .i64 n):=by
 subst hu0
 refine callsD_of_wpS Tryz.func65 rfl fun c₀ cs hu=>?_
 apply wpS_seq
 apply wpS_region
 simp [wpOpsS,go_sem,recoverD,hu,Tryz.ntmps65,Exit.thenS]
 apply wpS_seq
 apply wpS_region
 simp [wpOpsS,go_sem,recoverD,hu,Tryz.ntmps65,Exit.thenS]
 refine wpS_cond (t:=true) (by simp [Act.eval]) ?_
 have hlt:=(Array.getElem?_eq_some_iff.1 hg).1
 have hta:∀(v:Value) (w:World),(Instr.typeAssert (.iface 131 v) 20 131 true).run Tryz.prog w=.ok (.tuple #[v,.bool true]) w:=fun v w=>by
  simp [Instr.typeAssert,run_underlying Tryz.underlying131]
 apply wpS_seq
 apply wpS_region
 simp [wpOpsS,go_sem,hta,Exit.thenS]
 apply wpS_seq
 apply wpS_seq
 apply wpS_region
 simp [wpOpsS,go_sem,Exit.thenS]
 refine wpS_cond (t:=false) (by simp [Act.eval]) (wpS_of_wp (wp_skip ?_))
 simp only [Exit.thenS]
 have hgn:g≠w.heap.size:=by omega
 have hcell:(w.alloc (.cells #[.int .i64 n] 131)).cell? ⟨g,0,none⟩=some x:=by rw [World.cell?_alloc_past _ _ _ hlt];simp [World.cell?,hg]
 have hfz:(w.alloc (.cells #[.int .i64 n] 131)).frozen? ⟨g,0,none⟩=false:=by
  have:=((Below.refl w.heap.size w).alloc (Nat.le_refl _) (.cells #[.int .i64 n] 131)).block g hlt
  simp [World.frozen?,this,hg]
 apply wpS_region
 simp [wpOpsS,go_sem,Exit.thenS,hcell,hfz]
 refine ⟨rfl,.panicking [{ v:=.iface 131 (.agg #[.int .i64 n]),recovered:=true }],rfl,.tuple #[],?_,⟨_,rfl⟩,rfl,rfl⟩
 simp [results,Tryz.results65]
theorem D1_try {n1:Nat} {b:Base n1} {L:Nat} {H Hn:AStore} {x n:Int} (hx:IntKind.i64.has n) (hl:look H L=some (.var 41 (.int .i64) x)) (hn:setL H L (.var 41 (.int .i64) n)=Hn):Def1 Tryz.prog b 65 [.ptr L [] 0] (.iface 131 (.agg #[.int .i64 n])) H Hn:=by
 intro M φ ξ w us hc hr
 obtain ⟨u,r,rfl,⟨g,e1,rfl⟩,rfl⟩:=hr
 obtain ⟨H1,H2,rfl,hset,_⟩:=look_split hl
 rw [hset] at hn
 subst hn
 have hm:(L,AItem.var 41 (.int .i64) x)∈H1++(L,AItem.var 41 (.int .i64) x)::H2:=by simp
 obtain ⟨_,g',c,h1,h2,h3,h4⟩:=hc.items L _ hm
 rw [h1] at e1
 obtain rfl:=inj e1
 obtain ⟨h4,_⟩:=h4
 obtain rfl:c=#[.int .i64 x]:=by apply Array.ext';simpa using h4
 refine (D1_try0 _ w n g' rfl _ h3).mono ?_
 rintro e u' w' ⟨k1,k2,rfl⟩
 refine ⟨k1,k2,M,φ,ξ,?_⟩
 have hlt:=(Array.getElem?_eq_some_iff.1 h3).1
 have ha:=(Below.refl w.heap.size w).alloc (Nat.le_refl _) (.cells #[.int .i64 n] 131)
 have hc2:=hc.more (w':=w.alloc (.cells #[.int .i64 n] 131)) rfl rfl rfl ha.size ha.block
 have h5:(w.alloc (.cells #[.int .i64 n] 131)).heap[g']?=some (.cells #[.int .i64 x] 41 (0,0)):=(ha.block g' hlt).trans h3
 refine hc2.write h2 rfl rfl rfl ?_ (fun k hk=>Below.heap_setCell _ _ _ _ hk) ⟨rfl,g',#[.int .i64 n],h1,h2,?_,rfl,hx⟩
 ·simp [World.setCell]
 ·simp [World.setCell,Array.getElem?_modify,h5]
set_option maxHeartbeats 4000000 in
set_option maxRecDepth 100000 in
theorem D0_parse:Def0 Tryz.prog 104 2:=by
 intro us w hl
 obtain ⟨u,v,rfl⟩:∃u v,us=[u,v]:=by
  match us,hl with
  | [u,v],_=>exact ⟨u,v,rfl⟩
 refine callsD_of_wpS Tryz.func104 rfl fun c₀ cs hu=>?_
 apply wpS_seq
 apply wpS_region
 simp [wpOpsS,go_sem,recoverD,hu,Tryz.ntmps104,Exit.thenS]
 apply wpS_seq
 apply wpS_region
 simp [wpOpsS,go_sem,recoverD,hu,Tryz.ntmps104,Exit.thenS]
 refine wpS_cond (t:=false) (by simp [Act.eval]) ?_
 refine wpS_of_wp (wp_skip ?_)
 refine ⟨rfl,.returning,?_,.tuple #[],?_,⟨_,rfl⟩,rfl,rfl⟩
 ·rw [← hu]
 ·simp [results,Tryz.results104]
abbrev shCall:Sh:=.st (.prod (.int .i64) (.prod (.int .u64) (.prod (.int .u64) (.prod (.int .i64) (.prod (.int .i64) (.prod (.int .i64) .str))))))
abbrev noCall:shCall.ty:=(0,0,0,0,0,0,[])
set_option maxHeartbeats 4000000 in
set_option maxRecDepth 100000 in
theorem D1_parse {n1:Nat} {b:Base n1} {x:shCall.ty} {y:Int}:Def1 Tryz.prog b 104 [.ptr 0 [] 0,.ptr 20 [] 0] (.iface 167 (.agg #[])) [(0,.var 86 shCall x),(20,.var 41 (.int .i64) y)] [(0,.var 86 shCall noCall),(20,.var 41 (.int .i64) 210)]:=by
 intro M φ ξ w us hc hr
 obtain ⟨u,r,rfl,hu,v,r2,rfl,hv,rfl⟩:=hr
 refine callsD_of_wpS Tryz.func104 rfl fun c₀ cs hu0=>?_
 apply wpS_seq
 apply wpS_region
 simp [wpOpsS,go_sem,recoverD,hu0,Tryz.ntmps104,Exit.thenS]
 apply wpS_seq
 apply wpS_region
 simp [wpOpsS,go_sem,recoverD,hu0,Tryz.ntmps104,Exit.thenS]
 refine wpS_cond (t:=true) (by simp [Act.eval]) ?_
 have hta:∀(v:Value) (w:World),(Instr.typeAssert (.iface 167 v) 20 167 true).run Tryz.prog w=.ok (.tuple #[v,.bool true]) w:=fun v w=>by
  simp [Instr.typeAssert,run_underlying Tryz.underlying167]
 apply wpS_seq
 apply wpS_seq
 apply wpS_region
 simp [wpOpsS,go_sem,hta,Exit.thenS]
 apply wpS_seq
 apply wpS_region
 simp [wpOpsS,go_sem,hta,Exit.thenS]
 refine wpS_cond (t:=false) (by simp [Act.eval]) (wpS_of_wp (wp_skip ?_))
 simp only [Exit.thenS]
 have ha:=(Below.refl w.heap.size w).alloc (Nat.le_refl _) (.cells #[] 167)
 have hc2:=(hc.more (w':=w.alloc (.cells #[] 167)) rfl rfl rfl ha.size ha.block).ds []
 refine wpS_of_wp ?_
 have main:∀b:Base n1,b.ds=[]→∀R:Exit→Act→World→Prop,Run Tryz.prog Tryz.f104 b R [] [] [(0,.var 86 shCall noCall),(20,.var 41 (.int .i64) 210)]→Run Tryz.prog Tryz.f104 b R [.code (Code.sub (Code.sub (Code.sub (Code.sub (Tryz.f104.body.getD default) 1) 1) 0) 1)] [(0,.ptr 0 [] 0),(1,.ptr 20 [] 0)] [(0,.var 86 shCall x),(20,.var 41 (.int .i64) y)]:=by
  intro b hb R h
  exact rg [] [(0,.var 86 shCall noCall),(20,.var 41 (.int .i64) 210)] [] [] 6000 rfl (by kernel_rfl) c0 h
 refine main _ rfl _ (fun a w g1 g2 g3=>?_) _ _ ⟨M,φ,ξ,hc2,?_⟩ (by simp [Tryz.ntmps104]) rfl
 ·obtain ⟨M',φ',ξ',k1,k2⟩:=g1
  refine ⟨g3,.panicking [{ v:=.iface 167 (.agg #[]),recovered:=true }],rfl,.tuple #[],?_,⟨_,rfl⟩,rfl,M',φ',ξ',k1.undo⟩
  simp [results,Tryz.results104]
 ·intro t α ht
  simp only [look] at ht
  split at ht
  ·rename_i e
   obtain rfl:=Nat.eq_of_beq_eq_true e
   obtain rfl:=inj ht
   exact ⟨u,by simp,hu⟩
  ·split at ht
   ·rename_i e
    obtain rfl:=Nat.eq_of_beq_eq_true e
    obtain rfl:=inj ht
    exact ⟨v,by simp,hv⟩
   ·cases ht
section
variable {fn:Func} {n0:Nat} {b:Base n0} {R:Exit→Act→World→Prop} {k:List KI} {ρ:AEnv} {H:AStore}
set_option maxHeartbeats 4000000 in
set_option maxRecDepth 100000 in
theorem rg_ways {c:Code} {d1 d2 f0 f1 f2 f3 f4 f5 f6:Nat} {ty1 ty2 ty3:TypeId} {p1 p2 p3:String} {a1 a2 a3:Array Edge} (L:Nat)
  (hc:Code.kind c=.region #[⟨some d1,.build 137 #[(0,.func f0),(1,.func f1),(2,.func f2),(3,.func f3),(4,.func f4),(5,.func f5),(6,.func f6)],ty1,p1,a1,none⟩,⟨some d2,.alloc 137,ty2,p2,a2,none⟩,⟨none,.store 137 (.tmp d2) (.tmp d1),ty3,p3,a3,none⟩] false)
  (hL:freshB n0 L ρ H=true) (hd:(Nat.blt d1 fn.ntmps&&Nat.blt d2 fn.ntmps&&!Nat.beq d1 d2&&(ρ.map Prod.fst).all fun t=>!Nat.beq t d1)=true) (h:Run Tryz.prog fn b R k ((d2,.ptr L [] 0)::ρ) ((L,.var 137 (.arr 7 .fv) [f0,f1,f2,f3,f4,f5,f6])::H)):Run Tryz.prog fn b R (.code c::k) ρ H:=by
 cases c<;>simp [Code.kind] at hc
 obtain ⟨e9,rfl⟩:=hc
 rw [e9]
 intro a w g1 g2 g3
 obtain ⟨M,φ,ξ,q1,q2⟩:=g1
 simp only [Bool.and_eq_true,Nat.blt_eq,Bool.not_eq_true'] at hd
 obtain ⟨⟨⟨m1,m2⟩,m3⟩,m4⟩:=hd
 have m3:d1≠d2:=fun e=>by subst e;simp at m3
 have l1:d1<a.tmps.size:=by omega
 have l2:d2<a.tmps.size:=by omega
 refine wp_region ?_
 simp [wpOps,go_sem,l1,l2,Ne.symm m3]
 left
 left
 left
 have hnew:=heap_alloc_new w (.cells #[.nilFunc,.nilFunc,.nilFunc,.nilFunc,.nilFunc,.nilFunc,.nilFunc] 137)
 obtain ⟨w',r1,r2,r3,r4,r5,r6,r7⟩:=run_storeCellsAt (P:=Tryz.prog) (g:=w.heap.size) (t:=137) (fr:=(0,0)) [.func (.func f0) #[] #[],.func (.func f1) #[] #[],.func (.func f2) #[] #[],.func (.func f3) #[] #[],.func (.func f4) #[] #[],.func (.func f5) #[] #[],.func (.func f6) #[] #[]] (w:=w.alloc (.cells #[.nilFunc,.nilFunc,.nilFunc,.nilFunc,.nilFunc,.nilFunc,.nilFunc] 137)) (off:=0) (i:=0) (pre:=[]) (old:=[.nilFunc,.nilFunc,.nilFunc,.nilFunc,.nilFunc,.nilFunc,.nilFunc]) (post:=[]) (.inl rfl) hnew rfl rfl rfl (by simp [Value.oneCell'])
 simp only [List.nil_append,List.append_nil] at r2
 simp [go_sem] at r1
 simp only [r1,Result.andThen_ok,Oper.upon_skip]
 have ha:=(Below.refl w.heap.size w).alloc (Nat.le_refl _) (.cells #[.nilFunc,.nilFunc,.nilFunc,.nilFunc,.nilFunc,.nilFunc,.nilFunc] 137)
 have hsz:w.heap.size≤w'.heap.size:=by rw [r6];exact ha.size
 refine h _ w' ⟨M,upd φ L (.pointer (some ⟨w.heap.size,0,none⟩)),upd ξ L (some w.heap.size),q1.grow (ρ:=ρ) (u:=.pointer (some ⟨w.heap.size,0,none⟩)) (o:=some w.heap.size) hL r3 r4 r5 hsz (fun k hk=>(r7 k (by omega)).trans (ha.block k hk)) ⟨rfl,w.heap.size,_,rfl,rfl,r2,?_⟩ (fun g hg=>by cases hg;exact Nat.le_refl _),?_⟩ (by simp [Act.put,g2]) (by simp [Act.put,g3])
 ·exact ⟨rfl,[_],_,rfl,rfl,[_],_,rfl,rfl,[_],_,rfl,rfl,[_],_,rfl,rfl,[_],_,rfl,rfl,[_],_,rfl,rfl,[_],_,rfl,rfl,rfl⟩
 ·intro t α ht
  simp only [look] at ht
  split at ht
  ·rename_i e
   obtain rfl:=Nat.eq_of_beq_eq_true e
   obtain rfl:=inj ht
   exact ⟨.pointer (some ⟨w.heap.size,0,none⟩),by simp [Act.put,l2],w.heap.size,by rw [upd_same];rfl,rfl⟩
  ·rename_i e
   obtain ⟨v,k1,k2⟩:=q2 t α ht
   have hne:t≠d1:=by
    intro e2
    subst e2
    have:=List.all_eq_true.1 m4 t (List.mem_map.2 ⟨_,look_mem ht,rfl⟩)
    simp at this
   have hne2:t≠d2:=by
    intro e2
    subst e2
    simp at e
   have hfr:=fresh_env hL (f:=φ) (x:=.pointer (some ⟨w.heap.size,0,none⟩))
   exact ⟨v,by simp [Act.put,Ne.symm hne,Ne.symm hne2,k1],relV_labs (fun l hl=>hfr l (env_labs (look_mem ht) l hl)) k2⟩
end
end Go.Proofs.YtglfdihomfhmmaaGreatDoor
set_option maxRecDepth 100000
namespace Go.Proofs.YtglfdihomfhmmaaGreatDoor
open Go.RowKit
abbrev S43:Sh:=(.st (.prod (.int .i64) (.prod (.int .i64) (.int .u64))))
noncomputable def F_slices_Insert_api_Member_api_Member_e (x0:(List S43.ty)) (x1:Int) (x2:(List S43.ty)):Option (List S43.ty) :=
 if ((0:Int)≤x1∧toNat x1≤length x0∧length x0≤length x0) then (if (((length x2:Nat):Int)==0)=true then some x0 else if (x1==((length x0:Nat):Int))=true then if apOk (length x0+(length x2)) 24 then (some (x0++x2)) else none else none) else none
theorem W_slices_Insert_api_Member_api_Member_e {x0:(List S43.ty)} {x1:Int} {x2:(List S43.ty)} {y:(List S43.ty)} (F0:F_slices_Insert_api_Member_api_Member_e x0 x1 x2=some y):Mut Tryz.prog 123 2 [.row 0,vi x1,.row 1] [(0,.row 43 S43 x0),(1,.row 43 S43 x2)] (.row 2) [(2,.row 43 S43 y)]:=by
 unfold F_slices_Insert_api_Member_api_Member_e at F0
 refine mut_of_run @Tryz.call123 @Tryz.func123 rfl rfl fun b=>?_
 obtain ⟨h1,F0⟩:=ifg F0
 refine sq rfl ?_
 refine sE (oE [0,1,2] [0,1] 2 rfl (qE rfl (oE [0,1,2] [0,1] 2 rfl (qE rfl (oE [0,1,2,7] [0,1] 2 rfl (qE rfl (qE rfl (oE [0,1,2,7,16] [0,1] 2 rfl (fA [(0,.row 0),(1,vi x1),(2,.row 1),(7,vi ((length x2:Nat):Int)),(16,vb (((length x2:Nat):Int)==0))] [(0,.row 43 S43 x0),(1,.row 43 S43 x2)] (cc h1.1 (cc h1.2.1 (cc h1.2.2 c0))) ?_)))))))))
 refine run_if rfl rfl (fun h2=>?_) (fun h2=>?_)
 ·replace F0:=ift h2 F0
  refine sq rfl (rB [(6,.row 0)] [(0,.row 43 S43 x0)] 2 rfl c0 (run_ren (ρ':=[(6,.row 2)]) (H':=[(2,.row 43 S43 x0)]) 0 2 rfl (by kernel_rfl) rfl (by kernel_rfl) rfl ?_))
  obtain rfl:=inj F0
  exact ret_mut (q:=[.row 2]) [none] [2] rfl rfl (by kernel_rfl) rfl (by kernel_rfl)
 ·replace F0:=ifn h2 F0
  refine sk rfl (sq rfl ?_)
  refine sE (oE [0,1,2,7,8] [0,1] 2 rfl (qE rfl (qE rfl (oE [0,1,2,7,8,22] [0,1] 2 rfl (fA [(0,.row 0),(1,vi x1),(2,.row 1),(7,vi ((length x2:Nat):Int)),(8,vi ((length x0:Nat):Int)),(22,vb (x1==((length x0:Nat):Int)))] [(0,.row 43 S43 x0),(1,.row 43 S43 x2)] c0 ?_)))))
  refine run_if rfl rfl (fun h3=>?_) (fun h3=>?_)
  ·replace F0:=ift h3 F0
   obtain ⟨h4,F0⟩:=ifg F0
   refine sq rfl (rB [(6,.row 42)] [(42,.row 43 S43 (x0++x2))] 2 rfl (cc h4.1 (cc h4.2 c0)) (run_ren (ρ':=[(6,.row 2)]) (H':=[(2,.row 43 S43 (x0++x2))]) 42 2 rfl (by kernel_rfl) rfl (by kernel_rfl) rfl ?_))
   obtain rfl:=inj F0
   exact ret_mut (q:=[.row 2]) [none] [2] rfl rfl (by kernel_rfl) rfl (by kernel_rfl)
  ·replace F0:=ifn h3 F0
   cases F0
abbrev S113:Sh:=(.st (.prod (.int .u32) (.prod (.int .i64) (.int .i64))))
abbrev S58:Sh:=(.st (.prod (.int .i64) (.prod (.int .i64) (.prod (.int .i64) (.prod (.int .u64) (.prod (.int .u64) .str))))))
abbrev S115:Sh:=(.st (.prod S113 S58))
theorem run_copy_k {P:Program} (w:World) (dT sT ty elem:TypeId) (g o dLen dCap:Nat) (a:Addr) (sLen sCap:Nat) (cur:Array Value) (t:TypeId) (cs:List Value) (k n:Nat)
  (hu:P.underlying dT=some (.slice elem)) (hs:(P.info? elem).map (·.size)=some k)
  (hg:w.heap[g]?=some (.cells cur t (0,0))) (hm:Nat.min sLen dLen=n) (hn:cs.length=n*k)
  (hsrc:∀j v,cs[j]?=some v→w.cell? (a.add j)=some v) (hfit:o+cs.length≤cur.size) (h1:∀v∈cs,v.oneCell'=true) :
  (Builtin.copy_ #[dT,sT] ty #[.slice (some ⟨g,o,none⟩) dLen dCap,.slice (some a) sLen sCap]).run P w =
   .ok (goInt n) (w.setRow g (cur.toList.take o++cs++cur.toList.drop (o+cs.length)).toArray):=by
 have hl:=run_loadCells_list (P:=P) w a cs hsrc
 have hst:=run_storeCells_at P g o t cs 0 cur w hg (by simpa using hfit) h1
 cases hq:P.info? elem with
 | none=>simp [hq] at hs
 | some i =>
  have hi:i.size=k:=by simpa [hq] using hs
  have hm':min sLen dLen=n:=hm
  simp [Builtin.copy_,run_underlying hu,Builtin.lenOf,Builtin.firstCells,sizeOf,typeInfo,hq,hi,hm,hm',← hn,hl,hst]
set_option maxHeartbeats 4000000 in
set_option maxRecDepth 100000 in
theorem ins_shift_Member (w:World) (g n cap i g2 cap2:Nat) (c d:Array Value) (hg:w.heap[g]?=some (.cells c 43 (0,0))) (hg2:w.heap[g2]?=some (.cells d 43 (0,0))) (hne:g2≠g) (hi:i<n) (hroom:n+1≤cap) (hcap:cap≤9223372036854775807) (hc:c.size=cap*3) (hd:3≤d.size) (h1c:∀v∈c.toList.take (n*3),v.oneCell'=true) (h1d:∀v∈d.toList.take 3,v.oneCell'=true) :
  Calls Tryz.prog 123 #[.slice (some ⟨g,0,none⟩) n cap,.int .i64 i,.slice (some ⟨g2,0,none⟩) 1 cap2] w fun e w'=>e=.returned (.slice (some ⟨g,0,none⟩) (n+1) cap)∧∃c2:Array Value,w'=w.drew.setRow g c2∧c2.size=c.size∧c2.toList.take ((n+1)*3)=c.toList.take (i*3)++d.toList.take 3++(c.toList.drop (i*3)).take ((n-i)*3):=by
 have hz2:¬((i:Int)=(n:Int)):=by omega
 have hw1:IntKind.i64.wrap ((i:Int)+1)=(i:Int)+1:=by rw [IntKind.wrap_i64];omega
 have hw2:IntKind.i64.wrap ((n:Int)+1)=(n:Int)+1:=by rw [IntKind.wrap_i64];omega
 have mixed:Tryz.prog.follows .mixedOrders=true:=by kernel_rfl
 have hb1:(0:Int)≤(i:Int)+1:=by omega
 have hin:i≤n:=by omega
 have htn:((i:Int)+1).toNat=i+1:=by omega
 have hb2:¬(cap=i+1):=by omega
 have hb3:(i:Int)≤(n:Int)+1:=by omega
 have hb4:¬(cap=i):=by omega
 have hi43:(Tryz.prog.info? 43).map (·.size)=some 3:=by kernel_rfl
 have hcs:∀j v,((c.toList.drop (i*3)).take ((n-i)*3))[j]?=some v→w.drew.cell? ((⟨g,i*3,none⟩:Addr).add j)=some v:=fun j v hj=>by
  rw [Addr.add_lit]
  have hj1:=(List.getElem?_eq_some_iff.1 hj).1
  rw [List.length_take] at hj1
  rw [List.getElem?_take_of_lt (by omega),List.getElem?_drop] at hj
  have hj3:c[i*3+j]?=some v:=by rw [← Array.getElem?_toList];exact hj
  show w.cell? _=_
  simp [World.cell?,hg,hj3]
 have hlen:((c.toList.drop (i*3)).take ((n-i)*3)).length=(n-i)*3:=by simp;omega
 have hcp1:∀ty dc sc,(Builtin.copy_ #[28,28] ty #[.slice (some ⟨g,(i+1)*3,none⟩) (n-i) dc,.slice (some ⟨g,i*3,none⟩) (n+1-i) sc]).run Tryz.prog w.drew=.ok (goInt (n-i:Nat)) (w.drew.setRow g (c.toList.take ((i+1)*3)++((c.toList.drop (i*3)).take ((n-i)*3))++c.toList.drop ((i+1)*3+((c.toList.drop (i*3)).take ((n-i)*3)).length)).toArray):=fun ty dc sc =>
  run_copy_k w.drew _ _ ty 43 g ((i+1)*3) (n-i) dc ⟨g,i*3,none⟩ (n+1-i) sc c 43 _ 3 (n-i) Tryz.underlying28 hi43 hg (by show Nat.min _ _=_;simp only [Nat.min_def];split<;>omega) hlen hcs (by rw [hlen];omega) (fun v hv=>h1c v (by
   have h1:=List.mem_iff_getElem?.1 hv
   obtain ⟨j,hj⟩:=h1
   have hj1:=(List.getElem?_eq_some_iff.1 hj).1
   rw [List.length_take] at hj1
   rw [List.getElem?_take_of_lt (by omega),List.getElem?_drop] at hj
   exact List.mem_iff_getElem?.2 ⟨i*3+j,by rw [List.getElem?_take_of_lt (by omega)];exact hj⟩))
 have hcd:∀(c1:Array Value) j v,(d.toList.take 3)[j]?=some v→(w.drew.setRow g c1).cell? ((⟨g2,0,none⟩:Addr).add j)=some v:=fun c1 j v hj=>by
  rw [Addr.add_lit]
  have hj1:=(List.getElem?_eq_some_iff.1 hj).1
  rw [List.length_take] at hj1
  rw [List.getElem?_take_of_lt (by omega)] at hj
  have hj3:d[j]?=some v:=by rw [← Array.getElem?_toList];exact hj
  have h5:(w.drew.setRow g c1).heap[g2]?=some (.cells d 43 (0,0)):=by
   simp [World.setRow,Array.getElem?_modify,Ne.symm hne]
   exact hg2
  simp [World.cell?,h5,hj3]
 have hd3:(d.toList.take 3).length=1*3:=by simp;omega
 have hcp2:∀(c1:Array Value),c1.size=c.size→∀ty dc sc,(Builtin.copy_ #[28,28] ty #[.slice (some ⟨g,i*3,none⟩) (n+1-i) dc,.slice (some ⟨g2,0,none⟩) 1 sc]).run Tryz.prog (w.drew.setRow g c1)=.ok (goInt (1:Nat)) ((w.drew.setRow g c1).setRow g (c1.toList.take (i*3)++d.toList.take 3++c1.toList.drop (i*3+(d.toList.take 3).length)).toArray):=fun c1 hc1 ty dc sc =>
  run_copy_k (w.drew.setRow g c1) _ _ ty 43 g (i*3) (n+1-i) dc ⟨g2,0,none⟩ 1 sc c1 43 _ 3 1 Tryz.underlying28 hi43 (setRow_heap w.drew g c c1 _ _ hg) (by show Nat.min _ _=_;simp only [Nat.min_def];split<;>omega) hd3 (hcd c1) (by rw [hd3];omega) h1d
 obtain ⟨c1,hc1⟩:∃c1:Array Value,c1=(c.toList.take ((i+1)*3)++(((c.toList.drop (i*3)).take ((n-i)*3))++c.toList.drop ((i+1)*3+(n-i)*3))).toArray:=⟨_,rfl⟩
 have hs1:c1.size=c.size:=by rw [hc1];simp;omega
 have hcp3:=hcp2 c1 hs1
 rw [hd3] at hcp3
 rw [hlen,List.append_assoc,← hc1] at hcp1
 obtain ⟨c2,hc2⟩:∃c2:Array Value,c2=(c1.toList.take (i*3)++d.toList.take 3++c1.toList.drop (i*3+1*3)).toArray:=⟨_,rfl⟩
 rw [← hc2] at hcp3
 have hfin:c2.size=c.size∧c2.toList.take ((n+1)*3)=c.toList.take (i*3)++d.toList.take 3++(c.toList.drop (i*3)).take ((n-i)*3):=by
  have hl1:c1.toList=c.toList.take ((i+1)*3)++(((c.toList.drop (i*3)).take ((n-i)*3))++c.toList.drop ((i+1)*3+(n-i)*3)):=by rw [hc1]
  have hcl:c.toList.length=cap*3:=by rw [Array.length_toList,hc]
  have ht:(c.toList.take ((i+1)*3)).length=(i+1)*3:=by rw [List.length_take];omega
  have e1:c1.toList.take (i*3)=c.toList.take (i*3):=by
   rw [hl1,List.take_append_of_le_length (by omega),List.take_take]
   congr 1
   omega
  have e2:c1.toList.drop (i*3+1*3)=((c.toList.drop (i*3)).take ((n-i)*3))++c.toList.drop ((i+1)*3+(n-i)*3):=by
   rw [hl1,List.drop_append_of_le_length (by omega),List.drop_of_length_le (by omega),List.nil_append]
  have e3:c2.toList=c.toList.take (i*3)++d.toList.take 3++(((c.toList.drop (i*3)).take ((n-i)*3))++c.toList.drop ((i+1)*3+(n-i)*3)):=by rw [hc2,e1,e2]
  refine ⟨?_,?_⟩
  ·rw [← Array.length_toList,e3]
   simp
   omega
  ·rw [e3,← List.append_assoc,List.take_append_of_le_length (by simp;omega),List.take_of_length_le (by simp;omega)]
 clear hc2 hc1 hcp2
 have hov:∀o lb cb,(callFunc 185 #[.slice (some ⟨g2,0,none⟩) 1 cap2,.slice (some ⟨g,o,none⟩) lb cb]).run Tryz.prog w=.ok (.value (.bool false)) w:=fun o lb cb=>by
  rw [run_callFunc_extern Tryz.func185 (by kernel_rfl) (by kernel_rfl) (by kernel_rfl) (e:=Extern.SlicesOverlaps.overlaps #[28,28] #[4]) (by kernel_rfl),
   Lib.run_overlaps_apart w 28 4 43 Tryz.underlying28 3 (fun w=>szB_ok (by kernel_rfl) w) ⟨g2,0,none⟩ ⟨g,o,none⟩ 1 cap2 lb cb hne 43 43 d.size c.size (by simp [World.shape?,hg2]) (by simp [World.shape?,hg]) (by omega) (by simp [World.frozen?,hg2]) (by simp [World.frozen?,hg2])]
  rfl
 go_enter Tryz.func123,Tryz.ntmps123
 go_wp2_with (simp only [hov])
 go_region_law_o (refine step_copy_runI rfl _ _ 28 28 rfl _ _ (by simp [Act.eval,Act.put]) (by simp [Act.eval,Act.put]) (hcp1 _ _ _) ?_)
 go_wp2_with (at_builtin;refine wpList_copy_runI _ rfl _ _ 28 28 rfl _ _ rfl rfl (hcp3 _ _ _) ?_)
 go_ret
 exact ⟨rfl,c2,setRow_setRow _ _ _ _,hfin⟩
set_option maxHeartbeats 4000000 in
set_option maxRecDepth 100000 in
theorem ins_grow_Member (w:World) (g n cap i g2 cap2:Nat) (c d:Array Value) (hg:w.heap[g]?=some (.cells c 43 (0,0))) (hg2:w.heap[g2]?=some (.cells d 43 (0,0))) (hi:i<n) (hnc:n≤cap) (hroom:cap<n+1) (hbig:(n+1)*24≤140737488355328) (hc:c.size=cap*3) (hd:3≤d.size) (h1c:∀v∈c.toList.take (n*3),v.oneCell'=true) (h1d:∀v∈d.toList.take 3,v.oneCell'=true) :
  Calls Tryz.prog 123 #[.slice (some ⟨g,0,none⟩) n cap,.int .i64 i,.slice (some ⟨g2,0,none⟩) 1 cap2] w fun e w'=>∃G c2,e=.returned (.slice (some ⟨w.heap.size,0,none⟩) (n+1) G)∧n+1≤G∧G≤maxLen∧Array.size c2=G*3∧c2.toList.take ((n+1)*3)=c.toList.take (i*3)++d.toList.take 3++(c.toList.drop (i*3)).take ((n-i)*3)∧w'.heap[w.heap.size]?=some (.cells c2 43 (0,0))∧w'.os=w.os∧w'.tape=w.tape∧w'.output=w.output∧w.heap.size≤w'.heap.size∧∀k,k<w.heap.size→w'.heap[k]?=w.heap[k]?:=by
 have hz2:¬((i:Int)=(n:Int)):=by omega
 have hw1:IntKind.i64.wrap ((i:Int)+1)=(i:Int)+1:=by rw [IntKind.wrap_i64];omega
 have hw2:IntKind.i64.wrap ((n:Int)+1)=(n:Int)+1:=by rw [IntKind.wrap_i64];omega
 have hw3:IntKind.i64.wrap ((n:Int)+1-(i:Int))=(n:Int)+1-(i:Int):=by rw [IntKind.wrap_i64];omega
 have hz3:(cap:Int)<(n:Int)+1:=by omega
 have mixed:Tryz.prog.follows .mixedOrders=true:=by kernel_rfl
 have hi43:(Tryz.prog.info? 43).map (·.size)=some 3:=by kernel_rfl
 have hbw:g<w.heap.size:=(Array.getElem?_eq_some_iff.1 hg).1
 have hvw:g2<w.heap.size:=(Array.getElem?_eq_some_iff.1 hg2).1
 have hcl:c.toList.length=cap*3:=by rw [Array.length_toList,hc]
 have hold:(Builtin.firstCells 3 i (.slice (some ⟨g,0,none⟩) i cap)).run Tryz.prog w.drew=.ok (c.toList.take (i*3)).toArray w.drew :=
  run_firstCells_some w.drew 3 i ⟨g,0,none⟩ i cap (c.toList.take (i*3)) (by rw [List.length_take];omega) (fun j v hj=>by
   rw [Addr.add_lit]
   have hj1:=(List.getElem?_eq_some_iff.1 hj).1
   rw [List.length_take] at hj1
   rw [List.getElem?_take_of_lt (by omega)] at hj
   have hj3:c[j]?=some v:=by rw [← Array.getElem?_toList];exact hj
   show w.cell? _=_
   simp [World.cell?,hg,hj3])
 have hkk:(n:Int)+1-(i:Int)=((n+1-i:Nat):Int):=by omega
 have hik:i+(n+1-i)=n+1:=by omega
 obtain ⟨Z,hZ,hZs⟩:∃Z:Array Value,((Tryz.t43).zero.getD default).cells=Z∧Z.size=3:=⟨_,rfl,rfl⟩
 have hrz:∀ty,(Builtin.append_ #[28,3] ty #[.slice (some ⟨g,0,none⟩) i cap,.int .i64 ((n:Int)+1-(i:Int))]).run Tryz.prog w=.ok (.slice (some ⟨w.heap.size,0,none⟩) (n+1) (grownCap w (n+1) cap 43)) (w.drew.alloc (.cells ((c.toList.take (i*3)).toArray++Builtin.zeroCells Z (n+1-i)++Builtin.zeroCells Z (grownCap w (n+1) cap 43-(n+1))) 43)):=fun ty=>by
  have h:=Lib.run_append_grow_zeros (P:=Tryz.prog) w 28 3 ty 43 Tryz.t43 ((Tryz.t43).zero.getD default) .i64 .i64 Tryz.underlying28 Tryz.underlying3 (by kernel_rfl) (by kernel_rfl) (some ⟨g,0,none⟩) i cap (c.toList.take (i*3)) hold (n+1-i) (by omega) (by decide) (by omega) (by omega) (by have:(Tryz.t43).bytes=24:=(by kernel_rfl);rw [this];omega) (by have:(Tryz.t43).bytes=24:=(by kernel_rfl);rw [this,hik];exact growslice_fits hroom hbig)
  rw [hik,hZ] at h
  rw [hkk]
  exact h
 clear hZ
 obtain ⟨G,hG⟩:∃G,G=grownCap w (n+1) cap 43:=⟨_,rfl⟩
 have hGn:n+1≤G:=by rw [hG];exact grownCap_ge w _ _ _
 have hGm:G≤maxLen:=by rw [hG];exact grownCap_le_maxLen w (n+1) cap _ (by unfold maxLen;omega)
 have hG63:G≤9223372036854775807:=by unfold maxLen at hGm;omega
 rw [← hG] at hrz
 obtain ⟨ROW,hROW⟩:∃ROW:Array Value,ROW=(c.toList.take (i*3)).toArray++Builtin.zeroCells Z (n+1-i)++Builtin.zeroCells Z (G-(n+1)):=⟨_,rfl⟩
 rw [← hROW] at hrz
 have hRs:ROW.size=G*3:=by
  rw [hROW,Array.size_append,Array.size_append,size_zeroCells,size_zeroCells,hZs]
  simp
  omega
 have hRt:ROW.toList.take (i*3)=c.toList.take (i*3):=by
  rw [hROW,Array.toList_append,Array.toList_append,List.append_assoc,List.take_append_of_le_length (by simp;omega)]
  simp [List.take_take]
 clear hROW hold
 obtain ⟨W1,hW1⟩:∃W1,W1=w.drew.alloc (.cells ROW 43):=⟨_,rfl⟩
 have hN:W1.heap[w.heap.size]?=some (.cells ROW 43 (0,0)):=by rw [hW1];exact heap_alloc_new w.drew _
 have hal:=(Below.refl w.drew.heap.size w.drew).alloc (Nat.le_refl _) (.cells ROW 43)
 have hO:∀k,k<w.heap.size→W1.heap[k]?=w.heap[k]?:=fun k hk=>by rw [hW1];exact hal.block k hk
 have hx1:W1.os=w.os:=by rw [hW1];rfl
 have hx2:W1.tape=w.tape:=by rw [hW1];rfl
 have hx3:W1.output=w.output:=by rw [hW1];rfl
 have hx4:w.heap.size≤W1.heap.size:=by rw [hW1];exact hal.size
 have hNW:w.heap.size<W1.heap.size:=(Array.getElem?_eq_some_iff.1 hN).1
 rw [← hW1] at hrz
 clear hW1 hal
 have hd3:(d.toList.take 3).length=1*3:=by simp;omega
 have hcpA:∀ty dc sc,(Builtin.copy_ #[28,28] ty #[.slice (some ⟨w.heap.size,i*3,none⟩) (n+1-i) dc,.slice (some ⟨g2,0,none⟩) 1 sc]).run Tryz.prog W1=.ok (goInt (1:Nat)) (W1.setRow w.heap.size (ROW.toList.take (i*3)++d.toList.take 3++ROW.toList.drop (i*3+(d.toList.take 3).length)).toArray):=fun ty dc sc =>
  run_copy_k W1 _ _ ty 43 w.heap.size (i*3) (n+1-i) dc ⟨g2,0,none⟩ 1 sc ROW 43 _ 3 1 Tryz.underlying28 hi43 hN (by show Nat.min _ _=_;simp only [Nat.min_def];split<;>omega) hd3 (fun j v hj=>by
   rw [Addr.add_lit]
   have hj1:=(List.getElem?_eq_some_iff.1 hj).1
   rw [List.length_take] at hj1
   rw [List.getElem?_take_of_lt (by omega)] at hj
   have hj3:d[j]?=some v:=by rw [← Array.getElem?_toList];exact hj
   have h5:=(hO g2 hvw).trans hg2
   simp [World.cell?,h5,hj3]) (by rw [hd3];omega) h1d
 rw [hRt,hd3] at hcpA
 obtain ⟨c1,hc1⟩:∃c1:Array Value,c1=(c.toList.take (i*3)++d.toList.take 3++ROW.toList.drop (i*3+1*3)).toArray:=⟨_,rfl⟩
 rw [← hc1] at hcpA
 have hs1:c1.size=G*3:=by rw [hc1,← hRs];simp;omega
 have hlen:((c.toList.drop (i*3)).take ((n-i)*3)).length=(n-i)*3:=by simp;omega
 have hcpB:∀W:World,W.heap=(W1.setRow w.heap.size c1).heap→∀ty dc sc,(Builtin.copy_ #[28,28] ty #[.slice (some ⟨w.heap.size,(i+1)*3,none⟩) (n-i) dc,.slice (some ⟨g,i*3,none⟩) (n-i) sc]).run Tryz.prog W=.ok (goInt (n-i:Nat)) (W.setRow w.heap.size (c1.toList.take ((i+1)*3)++((c.toList.drop (i*3)).take ((n-i)*3))++c1.toList.drop ((i+1)*3+((c.toList.drop (i*3)).take ((n-i)*3)).length)).toArray):=fun W hW ty dc sc =>
  run_copy_k W _ _ ty 43 w.heap.size ((i+1)*3) (n-i) dc ⟨g,i*3,none⟩ (n-i) sc c1 43 _ 3 (n-i) Tryz.underlying28 hi43 (by rw [hW];exact setRow_heap W1 _ _ c1 _ _ hN) (by show Nat.min _ _=_;simp only [Nat.min_def];split<;>omega) hlen (fun j v hj=>by
   rw [Addr.add_lit]
   have hj1:=(List.getElem?_eq_some_iff.1 hj).1
   rw [List.length_take] at hj1
   rw [List.getElem?_take_of_lt (by omega),List.getElem?_drop] at hj
   have hj3:c[i*3+j]?=some v:=by rw [← Array.getElem?_toList];exact hj
   have h5:W.heap[g]?=some (.cells c 43 (0,0)):=by
    rw [hW]
    have:(W1.setRow w.heap.size c1).heap[g]?=W1.heap[g]?:=by
     have:w.heap.size≠g:=by omega
     simp [World.setRow,Array.getElem?_modify,this]
    rw [this]
    exact (hO g hbw).trans hg
   simp [World.cell?,h5,hj3]) (by rw [hlen,hs1];omega) (fun v hv=>h1c v (by
   obtain ⟨j,hj⟩:=List.mem_iff_getElem?.1 hv
   have hj1:=(List.getElem?_eq_some_iff.1 hj).1
   rw [List.length_take] at hj1
   rw [List.getElem?_take_of_lt (by omega),List.getElem?_drop] at hj
   exact List.mem_iff_getElem?.2 ⟨i*3+j,by rw [List.getElem?_take_of_lt (by omega)];exact hj⟩))
 rw [hlen] at hcpB
 obtain ⟨c2,hc2⟩:∃c2:Array Value,c2=(c1.toList.take ((i+1)*3)++((c.toList.drop (i*3)).take ((n-i)*3))++c1.toList.drop ((i+1)*3+(n-i)*3)).toArray:=⟨_,rfl⟩
 rw [← hc2] at hcpB
 have hfin:c2.size=G*3∧c2.toList.take ((n+1)*3)=c.toList.take (i*3)++d.toList.take 3++(c.toList.drop (i*3)).take ((n-i)*3):=by
  have ht:(c.toList.take (i*3)).length=i*3:=by rw [List.length_take];omega
  have hl1:c1.toList=c.toList.take (i*3)++d.toList.take 3++ROW.toList.drop (i*3+1*3):=by rw [hc1]
  have e1:c1.toList.take ((i+1)*3)=c.toList.take (i*3)++d.toList.take 3:=by
   rw [hl1,List.take_append_of_le_length (by rw [List.length_append];omega),List.take_of_length_le (by rw [List.length_append];omega)]
  have e3:c2.toList=c.toList.take (i*3)++d.toList.take 3++((c.toList.drop (i*3)).take ((n-i)*3))++c1.toList.drop ((i+1)*3+(n-i)*3):=by rw [hc2,e1]
  refine ⟨?_,?_⟩
  ·rw [← Array.length_toList,e3,List.length_append,List.length_append,List.length_append,hlen,hd3,ht,List.length_drop,Array.length_toList,hs1]
   omega
  ·rw [e3,List.take_append_of_le_length (by rw [List.length_append,List.length_append];omega),List.take_of_length_le (by rw [List.length_append,List.length_append];omega)]
 clear hc2 hc1 hRt
 have hGi:¬(G=i):=by omega
 have hGim:¬(G=i+1):=by omega
 have hci:¬(cap=i):=by omega
 have hb1:(0:Int)≤(i:Int)+1:=by omega
 have hin:i≤n:=by omega
 have htn:((i:Int)+1).toNat=i+1:=by omega
 have hb3:(i:Int)≤(n:Int):=by omega
 clear hkk hik hG
 go_enter Tryz.func123,Tryz.ntmps123
 go_wp2_with (first
  | (at_builtin;refine Lib.wpList_append_run _ rfl _ _ _ _ rfl _ _ rfl rfl _ _ (hrz _) ?_)
  | (at_builtin;refine wpList_copy_runI _ rfl _ _ 28 28 rfl _ _ rfl rfl (hcpA _ _ _) ?_))
 go_region_law_o (refine step_copy_runI rfl _ _ 28 28 rfl _ _ (by simp [Act.eval,Act.put]) (by simp [Act.eval,Act.put]) (hcpB (W1.setRow w.heap.size c1).drew rfl 3 (G-(i+1)) (cap-i)) ?_)
 go_wp2
 go_ret
 refine ⟨G,c2,rfl,hGn,hGm,hfin.1,hfin.2,?_,hx1,hx2,hx3,?_,?_⟩
 ·exact setRow_heap _ _ _ _ _ _ (setRow_heap W1 _ _ c1 _ _ hN)
 ·simpa [World.setRow] using hx4
 ·intro k hk
  have hne:w.heap.size≠k:=by omega
  have e1:((W1.setRow w.heap.size c1).drew.setRow w.heap.size c2).heap[k]?=W1.heap[k]?:=by
   show ((W1.setRow w.heap.size c1).setRow w.heap.size c2).heap[k]?=W1.heap[k]?
   simp [World.setRow,Array.getElem?_modify,hne]
  exact e1.trans (hO k hk)
noncomputable def F_slices_Insert_api_Member_api_Member (x0:List S43.ty) (x1:Int) (x2:List S43.ty):Option (List S43.ty) :=
 if 0≤x1∧x1≤((length x0:Nat):Int)∧length x2=1∧(length x0+1)*24≤140737488355328 then some (take (toNat x1) x0++x2++drop (toNat x1) x0) else none
theorem W_slices_Insert_api_Member_api_Member {x0:List S43.ty} {x1:Int} {x2:List S43.ty} {y:List S43.ty} (F0:F_slices_Insert_api_Member_api_Member x0 x1 x2=some y):Mut Tryz.prog 123 2 [.row 0,vi x1,.row 1] [(0,.row 43 S43 x0),(1,.row 43 S43 x2)] (.row 2) [(2,.row 43 S43 y)]:=by
 unfold F_slices_Insert_api_Member_api_Member at F0
 obtain ⟨⟨g1,g2,g3,g4⟩,F0⟩:=ifg F0
 obtain rfl:=inj F0
 clear F0
 obtain ⟨i,rfl⟩:=Int.eq_ofNat_of_zero_le g1
 have g2:i≤x0.length:=by omega
 rw [Int.toNat_natCast]
 rcases Nat.eq_or_lt_of_le g2 with rfl|hi
 ·have hF:F_slices_Insert_api_Member_api_Member_e x0 ((x0.length:Nat):Int) x2=some (x0.take x0.length++x2++x0.drop x0.length):=by
   unfold F_slices_Insert_api_Member_api_Member_e
   have h1:((0:Int)≤((x0.length:Nat):Int)∧toNat ((x0.length:Nat):Int)≤length x0∧length x0≤length x0):=⟨by omega,by omega,by omega⟩
   have h2:¬((((length x2:Nat):Int)==0)=true):=by rw [g3];decide
   have h3:(((x0.length:Nat):Int)==((length x0:Nat):Int))=true:=by simp
   have h4:apOk (length x0+(length x2)) 24:=by
    rw [g3]
    refine ⟨g4,?_⟩
    show _≤_
    unfold maxLen
    omega
   rw [if_pos h1,if_neg h2,if_pos h3,if_pos h4]
   simp
  exact W_slices_Insert_api_Member_api_Member_e hF
 ·refine ⟨Tryz.call123,fun b ξ us hc hr=>?_⟩
  obtain ⟨u0,r0,rfl,⟨rfl,_⟩,u1,r1,rfl,⟨_,cs1,rfl,hu1⟩,u2,r2,rfl,⟨rfl,_⟩,hr3⟩:=hr
  obtain rfl:r2=[]:=hr3
  obtain ⟨rfl,_⟩:=hu1
  obtain ⟨hs0,A0,cap,e0,k0⟩:=hc.items 0 _ (List.mem_cons_self ..)
  obtain ⟨hs2,A2,cap2,e2,k2⟩:=hc.items 1 _ (List.mem_cons_of_mem _ (List.mem_cons_self ..))
  have hx0:x0≠[]:=by intro e;subst e;simp at hi
  have hx2:x2≠[]:=by intro e;subst e;simp at g3
  rcases k0 with ⟨_,e,_⟩|⟨g,c,z1,rfl,⟨fr,z3,z4⟩,z5,z6,z7,z8⟩
  ·exact absurd e hx0
  rcases k2 with ⟨_,e,_⟩|⟨g',d,y1,rfl,⟨fr2,y3,y4⟩,y5,y6,y7,y8⟩
  ·exact absurd e hx2
  obtain rfl:fr=(0,0):=by
   rcases z4 with z4|⟨z4,_⟩
   ·exact z4
   ·cases z4
  obtain rfl:fr2=(0,0):=by
   rcases y4 with y4|⟨y4,_⟩
   ·exact y4
   ·cases y4
  have hne:g'≠g:=by
   intro e
   subst e
   have:=hc.sep 0 1 _ _ g' (List.mem_cons_self ..) (List.mem_cons_of_mem _ (List.mem_cons_self ..)) z1 y1
   cases this
  have hS:Sh.size S43=3:=rfl
  rw [hS] at z7 z8 y7 y8
  rw [g3] at y8 y5
  have y8:RepL (RepC Tryz.prog b.φ0 S43 b.M) (d.toList.take 3) x2:=by rw [Nat.one_mul] at y8;exact y8
  have z8:RepL (RepC Tryz.prog b.φ0 S43 b.M) (c.toList.take (x0.length*3)) x0:=z8
  have h1c:∀v∈c.toList.take (x0.length*3),v.oneCell'=true:=RepL_one (fun c y hc=>rep_one hc) z8
  have h1d:∀v∈d.toList.take 3,v.oneCell'=true:=RepL_one (fun c y hc=>rep_one hc) y8
  have hd:3≤d.size:=by rw [y7];omega
  have hfl:∀(c:List Value) (x:S43.ty),RepC Tryz.prog b.φ0 S43 b.M c x→c.length=3:=fun c y hc=>rep_len hs0 hc
  have hrep:RepL (RepC Tryz.prog b.φ0 S43 b.M) (c.toList.take (i*3)++d.toList.take 3++(c.toList.drop (i*3)).take ((x0.length-i)*3)) (x0.take i++x2++x0.drop i):=by
   obtain ⟨q1,q2⟩:=RepL_cut hfl (n:=i) (by omega) z8
   have q1:RepL (RepC Tryz.prog b.φ0 S43 b.M) (c.toList.take (i*3)) (x0.take i):=by
    rw [List.take_take] at q1
    rwa [Nat.min_eq_left (by omega)] at q1
   have q2:RepL (RepC Tryz.prog b.φ0 S43 b.M) ((c.toList.drop (i*3)).take ((x0.length-i)*3)) (x0.drop i):=by
    rw [List.drop_take] at q2
    rwa [show x0.length*3-i*3=(x0.length-i)*3 by omega] at q2
   exact repL_app (repL_app q1 y8) q2
  have hlen:(x0.take i++x2++x0.drop i).length=x0.length+1:=by simp [g3];omega
  have hfr:freshB 2 2 ([]:AEnv) ([]++(0,AItem.row 43 S43 x0)::[(1,AItem.row 43 S43 x2)])=true:=by kernel_rfl
  show Calls _ _ #[b.φ0 0,.int .i64 (i:Int),b.φ0 1] _ _
  rw [e0,e2,g3]
  rcases Nat.lt_or_ge cap (x0.length+1) with hroom|hroom
  ·refine (ins_grow_Member b.w g x0.length cap i g' cap2 c d z3 y3 hi z5 hroom g4 z7 hd h1c h1d).mono ?_
   rintro e w' ⟨G,c2,rfl,k1,k2,k3,k4,k5,k6,k7,k8,k9,k10⟩
   have:=Core.repl (ρ:=[]) (H1:=[]) (H2:=[(1,.row 43 S43 x2)]) (L:=0) (N:=2) (it:=.row 43 S43 x0) (it':=.row 43 S43 (x0.take i++x2++x0.drop i)) (u:=.slice (some ⟨b.w.heap.size,0,none⟩) (x0.length+1) G) (o:=some b.w.heap.size) hc hfr k6 k7 k8 k9 (fun k hk _=>k10 k hk) ⟨hs0,some ⟨b.w.heap.size,0,none⟩,G,by rw [hlen],.inr ⟨b.w.heap.size,c2,rfl,rfl,⟨_,k5,.inl rfl⟩,by rw [hlen];exact k1,k2,k3,?_⟩⟩ (fun g hg=>by cases hg;exact .inl (Nat.le_refl _))
   ·exact ⟨b.M,_,_,_,rfl,this.sub (by simp),⟨by rw [upd_same],rfl⟩⟩
   ·rw [hlen,hS,k4]
    exact RepL.mono (fun c y hc=>rep_pers rfl hc) hrep
  ·refine (ins_shift_Member b.w g x0.length cap i g' cap2 c d z3 y3 hne hi hroom (by unfold maxLen at z6;omega) z7 hd h1c h1d).mono ?_
   rintro e w' ⟨rfl,c2,rfl,k3,k4⟩
   have hset:=setRow_heap b.w.drew g c c2 _ _ z3
   have:=Core.repl (ρ:=[]) (H1:=[]) (H2:=[(1,.row 43 S43 x2)]) (L:=0) (N:=2) (it:=.row 43 S43 x0) (it':=.row 43 S43 (x0.take i++x2++x0.drop i)) (w':=b.w.drew.setRow g c2) (u:=.slice (some ⟨g,0,none⟩) (x0.length+1) cap) (o:=some g) hc hfr rfl rfl rfl (by simp [World.setRow];first|done|exact Nat.le_refl _) (fun k hk hx=>by
    have hgk:g≠k:=fun e=>hx (by rw [← e];exact z1)
    show (b.w.drew.setRow g c2).heap[k]?=b.w.drew.heap[k]?
    simp [World.setRow,Array.getElem?_modify,hgk]) ⟨hs0,some ⟨g,0,none⟩,cap,by rw [hlen],.inr ⟨g,c2,rfl,rfl,⟨_,hset,.inl rfl⟩,by rw [hlen];exact hroom,z6,by rw [k3];exact z7,?_⟩⟩ (fun g' hg=>by cases hg;exact .inr z1)
   ·exact ⟨b.M,_,_,_,rfl,this.sub (by simp),⟨by rw [upd_same],rfl⟩⟩
   ·rw [hlen,hS,k4]
    exact RepL.mono (fun c y hc=>rep_pers rfl hc) hrep
def LeO {α:Type} (a b:Option α):Prop:=∀y,a=some y→b=some y
theorem LeO.rfl {α:Type} {a:Option α}:LeO a a:=fun _ h=>h
theorem LeO.bind {α β:Type} {a b:Option α} {f g:α→Option β} (h:LeO a b) (k:∀x,LeO (f x) (g x)):LeO (a.bind f) (b.bind g):=by
 intro y hy
 cases a with
 | none=>cases hy
 | some x=>rw [h x (by rfl)];exact k x y hy
theorem LeO.ite {α:Type} {p:Prop} [Decidable p] {a b c d:Option α} (h:LeO a c) (k:LeO b d):LeO (if p then a else b) (if p then c else d):=by
 split
 ·exact h
 ·exact k
theorem LeO.elim {α β γ:Type} {f f':α→Option γ} {g g':β→Option γ} (h:∀x,LeO (f x) (f' x)) (k:∀x,LeO (g x) (g' x)) (s:α⊕β):LeO (Sum.elim f g s) (Sum.elim f' g' s):=by
 cases s with
 | inl x=>exact h x
 | inr x=>exact k x
def loopN {σ τ:Type}:Nat→(σ→Option (σ⊕τ))→σ→Option τ
 | 0,_,_=>none
 | n+1,f,s=>match f s with
  | none=>none
  | some (.inl s')=>loopN n f s'
  | some (.inr r)=>some r
theorem LeO.loop {σ τ:Type} {f g:σ→Option (σ⊕τ)} (h:∀s,LeO (f s) (g s)) {n:Nat} {s:σ}:LeO (loopN n f s) (loopO g s):=by
 induction n generalizing s with
 | zero=>intro y hy;cases hy
 | succ n ih =>
  intro y hy
  rw [loopO_eq]
  simp only [loopN] at hy
  cases hf:f s with
  | none=>rw [hf] at hy;cases hy
  | some z =>
   rw [hf] at hy
   rw [h s z hf]
   cases z with
   | inl s'=>exact ih y hy
   | inr r=>exact hy
def G_internal_strconv_FormatUint (x b:Int):Option Str:=if b=10∧0≤x∧x<10 then some [UInt8.ofNat (48+x.toNat)] else none
theorem M_internal_strconv_FormatUint {x b:Int}:LeO (G_internal_strconv_FormatUint x b) (F_internal_strconv_FormatUint x b):=by
 intro y hy
 unfold G_internal_strconv_FormatUint at hy
 split at hy
 ·rename_i h
  unfold F_internal_strconv_FormatUint
  rw [if_pos h.1,← hy,Lib.decDigits,dif_pos (by omega)]
 ·cases hy
def G_strconv_ParseUint (x:Str) (a b:Int):Option (Int×Bool):=if a=10∧b=64 then if x=[57] then some (9,true) else if x=[56] then some (8,true) else if x=[49] then some (1,true) else none else none
theorem M_strconv_ParseUint {x:Str} {a b:Int}:LeO (G_strconv_ParseUint x a b) (F_strconv_ParseUint x a b):=by
 intro y hy
 unfold G_strconv_ParseUint at hy
 unfold F_strconv_ParseUint
 split at hy
 ·rename_i h
  split at hy
  ·rename_i e;subst e;rw [if_pos ⟨h.1,h.2,by decide⟩,← hy];rfl
  ·split at hy
   ·rename_i e;subst e;rw [if_pos ⟨h.1,h.2,by decide⟩,← hy];rfl
   ·split at hy
    ·rename_i e;subst e;rw [if_pos ⟨h.1,h.2,by decide⟩,← hy];rfl
    ·cases hy
 ·cases hy
end Go.Proofs.YtglfdihomfhmmaaGreatDoor
namespace Go.Proofs.YtglfdihomfhmmaaGreatDoor
open Go.ChangeShapes Go.WideShapes Go.ChangeAt Go.RowKit
theorem Tryz.own:ownKnob Tryz.prog.godebug=none:=by kernel_rfl
theorem Tryz.laidOut:laidOutB Tryz.prog=true:=by kernel_rfl
theorem trodAll_stays {H:Type} {enc:TypeId×Value→H} {P:Program} (hl:laidOutB P=true) {W W':World} {sp':Nat→Bool} :
  ∀(ts:List TypeId) (vs:List Value) (ds:List (DataW H)) (ps:List MemPlace),(∀t∈ts,P.readableRec t=true∧t<P.types.size) →
   DataW.TrodAll enc P W 0 (fun _=>true) true ts vs ds ps→(∀p∈ps,W.sameAt W' p)→(∀p∈ps,sp' p.block=true)→DataW.TrodAll enc P W' 0 sp' true ts vs ds ps
 | [],[],[],_,_,h,_,_=>h
 | [],_::_,_,_,_,h,_,_=>h.elim
 | [],[],_::_,_,_,h,_,_=>h.elim
 | _::_,[],_,_,_,h,_,_=>h.elim
 | _::_,_::_,[],_,_,h,_,_=>h.elim
 | t::ts,v::vs,d::ds,ps,hr,h,hs,hp=>by
  obtain ⟨p,q,h1,h2,rfl⟩:=h
  have ht:=hr t (List.mem_cons_self ..)
  exact ⟨p,q,WideElems.Trod_stays hl ht.1 ht.2 h1 (fun x hx=>hs x (List.mem_append_left _ hx)) (fun x hx=>hp x (List.mem_append_left _ hx)),
   trodAll_stays hl ts vs ds q (fun u hu=>hr u (List.mem_cons_of_mem _ hu)) h2 (fun x hx=>hs x (List.mem_append_right _ hx)) (fun x hx=>hp x (List.mem_append_right _ hx)),rfl⟩
theorem law_post {H:Type} {enc:TypeId×Value→H} {P:Program} {f:Func} {s:ChangeSpec} {apart fresh handsOn:Bool} {W W':World} {args:Array Value} {ds gs:List (DataW H)} {before:List MemPlace} {tb:TypeId}
  (hl:laidOutB P=true) (hr:∀t∈f.params.toList,P.readableRec t=true∧t<P.types.size) (hrt:f.resultTypes=#[tb]) (htb:P.underlying tb=some .bool) (hvars:s.vars=[])
  (hW:DataW.Whole enc P f.params.toList s.vars apart W args.toList ds gs before)
  (hres:(s.fn H (ds++gs)).results=[.lit (.bool true)]) (hargs:(s.fn H (ds++gs)).args=ds) (hvs:(s.fn H (ds++gs)).vars=[])
  (hb:Below W.heap.size W W'):s.post enc P f apart fresh handsOn false W args (.bool true) W':=by
 have hW':=hW
 have hlt:∀p∈before,p.block<W.heap.size:=fun p hp=>hW.lt p hp
 obtain ⟨p,q,hA,hV,rfl,hfz,hnd⟩:=hW
 rw [hvars] at hV
 obtain ⟨rfl,rfl⟩:=trodVars_none hV
 refine ⟨ds,[],_,[],p,[],hW',?_,?_,?_,hb.frame _,fun h=>by cases h⟩
 ·rw [hres,hrt]
  exact trodAll_mk1 (shut_bool htb true)
 ·rw [hargs]
  exact trodAll_stays hl _ _ _ _ hr hA (fun x hx=>hb.same (hlt x (by simp [hx]))) (fun x hx=>by simpa using hlt x (by simp [hx]))
 ·rw [hvs,hvars];rfl
def memM (w:World):Fz:=fun g=>match w.heap[g]? with
 | some (.cells c _ _)=>some c
 | _=>none
theorem memM_over (w:World) (hg:GL (memM w)):Over (memM w) w:=⟨fun g c h=>(by
 unfold memM at h
 split at h
 ·rename_i c' t fr e
  simp only [injEq] at h
  subst h
  exact ⟨t,fr,e⟩
 ·cases h),hg⟩
theorem cell_mem {w:World} {a:Addr} {v:Value} (h:w.cell? a=some v):∃b o c,a=⟨b,o,none⟩∧memM w b=some c∧c[o]?=some v:=by
 have hs:=World.cell?_spot h
 obtain ⟨b,o,s⟩:=a
 simp only at hs
 subst hs
 unfold World.cell? at h
 split at h
 ·rename_i c t fr e
  exact ⟨b,o,c,rfl,by simp [memM,e],by simpa using h⟩
 ·cases h
theorem gl_of {w : World} {c : Array Value} {m : Int} (ht : Lib.TabIs Tryz.prog w "internal/strconv.uint64pow10" .u64 Lib.pow10Tab) (hm : w.var? Tryz.prog "internal/bytealg.MaxLen" = some c) (hm2 : c[0]? = some (.int .i64 m)) (he : ∀ g ∈ GLe, ∃ (c : Array Value) (u : Value), memM w g = some c ∧ c[0]? = some u ∧ (u = .nilIface ∨ ∃ t p, u = .iface t p) := by intro g hg; cases hg) : GL (memM w) := by
 have hv:∀{name:String} {g:Nat} {c:Array Value},Tryz.prog.globalNamed name=some g→w.var? Tryz.prog name=some c→memM w g=some c:=by
  intro name g c h1 h2
  unfold World.var? at h2
  rw [h1] at h2
  exact h2
 refine ⟨fun p hp=>?_,fun g hg=>?_,he⟩
 ·obtain rfl:=List.mem_singleton.1 hp
  exact hv (by kernel_rfl) ht
 ·obtain rfl:=List.mem_singleton.1 hg
  exact ⟨c,m,hv (by kernel_rfl) hm,hm2⟩
theorem laid_ifc {P:Program} {n nm:String} {d:DataW Unit} {r:List (String×DataW Unit)} {W:World} {g:Nat} {ti:TypeId} {ms:Array (String×TypeId)} (h:laidMet P ((n,.iface nm d)::r) W) (hg:P.globalNamed n=some g) (ht:(P.globals[g]?).map (·.type)=some ti) (hi:P.underlying ti=some (.interface ms)):∃(c:Array Value) (u:Value),W.var? P n=some c∧c[0]?=some u∧∃t p,u=.iface t p:=by
 obtain ⟨ps,⟨g0,t0,cs0,f0,p0,q0,hg0,ht0,hv0,hd0,_,e0⟩,_,hrows⟩:=h
 obtain rfl:=inj (hg.symm.trans hg0)
 obtain rfl:=inj (ht.symm.trans ht0)
 obtain ⟨l0⟩:=cs0
 obtain ⟨f1,u,v,rfl,hn,h1⟩:=iface_of_trod hi hd0
 exact ⟨_,_,hv0,rfl,u,v,rfl⟩
theorem gle_of {w : World} (h1 : ∃ (c : Array Value) (u : Value), w.var? Tryz.prog "strconv.ErrSyntax" = some c ∧ c[0]? = some u ∧ ∃ t p, u = .iface t p) (h2 : ∃ (c : Array Value) (u : Value), w.var? Tryz.prog "strconv.ErrRange" = some c ∧ c[0]? = some u ∧ ∃ t p, u = .iface t p) : ∀ g ∈ GLe, ∃ (c : Array Value) (u : Value), memM w g = some c ∧ c[0]? = some u ∧ (u = .nilIface ∨ ∃ t p, u = .iface t p) := by
 have hv:∀{name:String} {g:Nat} {c:Array Value},Tryz.prog.globalNamed name=some g→w.var? Tryz.prog name=some c→memM w g=some c:=by
  intro name g c h1 h2
  unfold World.var? at h2
  rw [h1] at h2
  exact h2
 intro g hg
 rcases List.mem_cons.1 hg with rfl|hg
 ·obtain ⟨c,u,e1,e2,e3⟩:=h1
  exact ⟨c,u,hv (by kernel_rfl) e1,e2,.inr e3⟩
 ·obtain rfl:=List.mem_singleton.1 hg
  obtain ⟨c,u,e1,e2,e3⟩:=h2
  exact ⟨c,u,hv (by kernel_rfl) e1,e2,.inr e3⟩
theorem law_walk {P:Program} {k:FuncId} {l:List AVal} {us:List Value} {W:World} (hg:GL (memM W)) (h:Pure P k l (.v .bool true)) (hr:RelVs P (memM W) φ0 l us):Calls P k us.toArray W fun e w'=>e=.returned (.bool true)∧Below W.heap.size W w':=by
 refine (h.2 W (memM W) us (memM_over W hg) hr).mono ?_
 rintro e w' ⟨M',v,rfl,hb,_,_,_,_,cs,rfl,hc⟩
 simp only [RepC] at hc
 subst hc
 exact ⟨rfl,hb⟩
def opGo (P:Program) (F:TypeId→Sh→Bool):Nat→List Field→Sh→Bool
 | off,[],.unit=>true
 | off,[f],s=>F f.type s&&Nat.beq f.offset off&&Nat.beq (P.cellsOf f.type) s.size
 | off,f::fs,.prod a b=>F f.type a&&Nat.beq f.offset off&&Nat.beq (P.cellsOf f.type) a.size&&opGo P F (off+a.size) fs b
 | _,_,_=>false
def opSh (P:Program):Nat→TypeId→Sh→Bool
 | 0,_,_=>false
 | d+1,t,s=>match P.underlying t,s with
  | some .bool,.bool=>true
  | some (.int k),.int k'=>decide (k'=k)
  | some .string,.str=>true
  | some (.array n e),.arr m s'=>Nat.beq n m&&opSh P d e s'&&Nat.beq (P.cellsOf e) s'.size&&Nat.beq (P.cellsOf t) (n*s'.size)
  | some (.slice e),.sl s'=>opSh P d e s'&&s'.fixed&&Nat.beq (P.cellsOf e) s'.size&&Nat.blt 0 s'.size
  | some (.struct fs),.st s'=>opGo P (opSh P d) 0 fs.toList s'&&Nat.beq (P.cellsOf t) s'.size
  | _,_=>false
def Sh.bulk:(s:Sh)→s.ty→Nat
 | .int _,_=>1
 | .bool,_=>1
 | .str,x=>length x+1
 | .prod a b,x=>a.bulk x.1+b.bulk x.2
 | .st s,x=>s.bulk x+1
 | .arr _ s,x=>(List.map s.bulk x).sum+1
 | .sl s,x=>(List.map s.bulk x).sum+1
 | _,_=>0
theorem bulkAll_sum {H:Type}:∀l:List (DataW H),Rows.uptoBulkAll l=(l.map Rows.uptoBulk).sum
 | []=>by simp [Rows.uptoBulkAll]
 | d::r=>by simp [Rows.uptoBulkAll,bulkAll_sum r]
theorem rows_of {α:Type} {R:List Value→α→Prop} {sz:Nat} {bk:α→Nat}:∀(n:Nat) (cs:List Value) (B:Nat→Nat),cs.length=n*sz→(∀i,i<n→∃y,R ((cs.drop (i*sz)).take sz) y∧bk y≤B i)→∃xs:List α,xs.length=n∧RepL R cs xs∧(xs.map bk).sum≤((List.range n).map B).sum
 | 0,cs,B,hl,_=>⟨[],rfl,List.length_eq_zero_iff.1 (by simpa using hl),by simp⟩
 | n+1,cs,B,hl,h=>by
  obtain ⟨y,hy,hb⟩:=h 0 (by omega)
  have hl':(cs.drop sz).length=n*sz:=by rw [List.length_drop,hl,Nat.succ_mul];omega
  obtain ⟨xs,h1,h2,h3⟩:=rows_of n (cs.drop sz) (fun i=>B (i+1)) hl' fun i hi=>by
   obtain ⟨y,hy,hb⟩:=h (i+1) (by omega)
   refine ⟨y,?_,hb⟩
   rw [List.drop_drop,show sz+i*sz=(i+1)*sz by rw [Nat.succ_mul];omega]
   exact hy
  refine ⟨y::xs,by simp [h1],⟨cs.take sz,cs.drop sz,(List.take_append_drop _ _).symm,by simpa using hy,h2⟩,?_⟩
  rw [List.range_succ_eq_map]
  simp only [List.map_cons,List.sum_cons,List.map_map]
  have e:(List.map (B ∘ Nat.succ) (List.range n)).sum=(List.map (fun i=>B (i+1)) (List.range n)).sum:=rfl
  omega
section
variable {H:Type} {enc:TypeId×Value→H} {P:Program} {w:World} {spare:Nat→Bool} {held:Bool} {φ:Nat→Value}
theorem open_go {d:Nat} {cs:List Value} {m:Nat} (ih:∀(t:TypeId) (s:Sh) (fuel:Nat) (cs:List Value) (x:DataW H×List MemPlace),opSh P d t s=true→DataW.trod enc P w 0 spare held fuel t cs=some x→∃y,RepC P φ s (memM w) cs y∧s.bulk y≤Rows.uptoBulk x.1) :
  ∀(fl:List Field) (xs:List (DataW H×List MemPlace)) (off:Nat) (s:Sh),opGo P (opSh P d) off fl s=true→xs.length=fl.length→(∀(i:Nat) f,fl[i]?=some f→∃x,xs[i]?=some x∧DataW.trod enc P w 0 spare held m f.type ((cs.drop f.offset).take (P.cellsOf f.type))=some x)→cs.length=off+s.size→∃y,RepC P φ s (memM w) (cs.drop off) y∧s.bulk y≤Rows.uptoBulkAll (xs.map (·.1))
 | [],xs,off,s,h,hx,hall,hl=>by
  cases s<;>simp [opGo] at h
  simp [Sh.size] at hl
  refine ⟨(),?_,Nat.zero_le _⟩
  show cs.drop off=[]
  exact List.drop_eq_nil_of_le (by omega)
 | [f],xs,off,s,h,hxl,hall,hl=>by
  have h':(opSh P d f.type s&&Nat.beq f.offset off&&Nat.beq (P.cellsOf f.type) s.size)=true:=by
   cases s<;>simpa [opGo] using h
  simp only [Bool.and_eq_true] at h'
  obtain ⟨⟨h1,h2⟩,h3⟩:=h'
  have h2:=Nat.eq_of_beq_eq_true h2
  have h3:=Nat.eq_of_beq_eq_true h3
  obtain ⟨x,hq,hx⟩:=hall 0 f rfl
  rw [h2,h3,List.take_of_length_le (by rw [List.length_drop];omega)] at hx
  obtain ⟨y,k1,k2⟩:=ih _ _ _ _ _ h1 hx
  refine ⟨y,k1,Nat.le_trans k2 ?_⟩
  cases xs with
  | nil=>cases hq
  | cons x' r =>
   obtain rfl:x'=x:=inj hq
   rw [List.map_cons,Rows.uptoBulkAll]
   omega
 | f::g::fs,xs,off,s,h,hxl,hall,hl=>by
  cases s<;>simp [opGo] at h
  rename_i a b
  obtain ⟨⟨⟨h1,h2⟩,h3⟩,h4⟩:=h
  obtain ⟨x,hq,hx⟩:=hall 0 f rfl
  rw [h2,h3] at hx
  simp only [Sh.size] at hl
  cases xs with
  | nil=>cases hq
  | cons x' r =>
   obtain rfl:x'=x:=inj hq
   obtain ⟨y1,k1,b1⟩:=ih _ _ _ _ _ h1 hx
   obtain ⟨y2,k2,b2⟩:=open_go ih (g::fs) r (off+a.size) b h4 (by simpa using hxl) (fun i q hq=>hall (i+1) q hq) (by omega)
   refine ⟨(y1,y2),⟨_,_,?_,k1,k2⟩,?_⟩
   ·rw [← List.drop_drop,List.take_append_drop]
   ·rw [List.map_cons,Rows.uptoBulkAll]
    show a.bulk y1+b.bulk y2≤_
    omega
theorem open_cells:∀(d:Nat) (t:TypeId) (s:Sh) (fuel:Nat) (cs:List Value) (x:DataW H×List MemPlace),opSh P d t s=true→DataW.trod enc P w 0 spare held fuel t cs=some x→∃y,RepC P φ s (memM w) cs y∧s.bulk y≤Rows.uptoBulk x.1:=by
 intro d
 induction d with
 | zero=>intro t s fuel cs x h;simp [opSh] at h
 | succ d ih =>
  intro t s fuel cs x h ht
  simp only [opSh] at h
  split at h
  ·rename_i hu
   obtain ⟨b,rfl,rfl⟩:=DataW.trod_bool hu ht
   exact ⟨b,rfl,by simp [Sh.bulk,Rows.uptoBulk]⟩
  ·rename_i k k' hu
   simp only [decide_eq_true_eq] at h
   subst h
   obtain ⟨n,rfl,rfl,hw⟩:=DataW.trod_int hu ht
   refine ⟨n,⟨rfl,?_⟩,by simp [Sh.bulk,Rows.uptoBulk]⟩
   simpa [Lit.wf,IntKind.has] using hw
  ·rename_i hu
   obtain ⟨b,rfl,rfl,hw⟩:=DataW.trod_string hu ht
   refine ⟨b.data.toList,⟨by rw [bs_data],?_⟩,by simp [Sh.bulk,Rows.uptoBulk]⟩
   rw [Array.length_toList]
   exact hw
  ·rename_i n e m s' hu
   simp only [Bool.and_eq_true] at h
   obtain ⟨⟨⟨h1,h2⟩,h3⟩,h4⟩:=h
   have h1:=Nat.eq_of_beq_eq_true h1
   have h3:=Nat.eq_of_beq_eq_true h3
   have h4:=Nat.eq_of_beq_eq_true h4
   subst h1
   obtain ⟨xs,m,_,rfl,hlen,hxl,hx⟩:=DataW.trod_array hu ht
   obtain ⟨ys,k1,k2,k3⟩:=rows_of (R:=RepC P φ s' (memM w)) (bk:=s'.bulk) n cs (fun i=>match xs[i]? with|some x=>Rows.uptoBulk x.1|none=>0) (by rw [hlen,h4]) fun i hi=>by
    have h5:=hx i hi
    rw [h3,List.getElem?_eq_getElem (by omega)] at h5
    rw [List.getElem?_eq_getElem (by omega)]
    exact ih _ _ _ _ _ h2 h5
   refine ⟨ys,⟨k1,k2⟩,?_⟩
   have e:(List.range n).map (fun i=>match xs[i]? with|some x=>Rows.uptoBulk x.1|none=>0)=(xs.map (·.1)).map Rows.uptoBulk:=by
    apply List.ext_getElem (by simp [hxl])
    intro i q1 q2
    simp only [List.getElem_map,List.getElem_range]
    rw [List.getElem?_eq_getElem (by simpa using q2)]
   rw [e] at k3
   show (List.map s'.bulk ys).sum+1≤Rows.uptoBulk (.agg (xs.map (·.1)))
   rw [Rows.uptoBulk,bulkAll_sum]
   omega
  ·rename_i e s' hu
   simp only [Bool.and_eq_true] at h
   obtain ⟨⟨⟨h1,h2⟩,h3⟩,h4⟩:=h
   have h3:=Nat.eq_of_beq_eq_true h3
   rw [Nat.blt_eq] at h4
   rcases Deep.open_slice hu ht with ⟨rfl,rfl⟩|⟨a,len,cap,m,n,Dn,Pl,rfl,hb,hl,hm,hmm,rfl,hi⟩
   ·exact ⟨[],⟨none,0,0,[],rfl,rfl,⟨Nat.le_refl _,by simp [maxLen]⟩,Cl.nil _ _,rfl⟩,by simp [Sh.bulk,Rows.uptoBulk]⟩
   ·have hlm:len≤m:=by rw [hmm];split<;>omega
    rcases Nat.eq_zero_or_pos len with rfl|hp
    ·exact ⟨[],⟨some a,0,cap,[],rfl,rfl,⟨Nat.zero_le _,hm⟩,Cl.nil _ _,rfl⟩,by simp [Sh.bulk,Rows.uptoBulk]⟩
    ·rw [h3] at hi
     have each:∀i,i<len→∃cs',cs'.length=s'.size∧(∃y,RepC P φ s' (memM w) cs' y∧s'.bulk y≤Rows.uptoBulk (Dn i))∧∀j,j<s'.size→w.cell? ((a.add (i*s'.size)).add j)=cs'[j]?:=by
      intro i hlt
      obtain ⟨cs',hc,hr⟩:=hi i (by omega)
      obtain ⟨-,hl0,hg⟩:=World.cells?_some hc
      exact ⟨cs',hl0,ih _ _ _ _ _ h1 hr,hg⟩
     obtain ⟨cs0,l0,-,g0⟩:=each 0 hp
     have g0:=g0 0 h4
     rw [List.getElem?_eq_getElem (by omega)] at g0
     have hs:a.spot=none:=by simpa [Addr.add] using World.cell?_spot g0
     obtain ⟨b,o,sp⟩:=a
     simp only at hs
     subst hs
     obtain ⟨b',o',c,e1,e2,e3⟩:=cell_mem g0
     rw [addz,addz] at e1
     simp only [Addr.mk.injEq] at e1
     obtain ⟨rfl,rfl,_⟩:=e1
     have cellc:∀k,w.cell? ⟨b,k,none⟩=c[k]?:=by
      intro k
      unfold memM at e2
      split at e2
      ·rename_i c' t' fr e4
       simp only [injEq] at e2
       subst e2
       simp [World.cell?,e4]
      ·cases e2
     have each':∀i,i<len→∃cs',cs'.length=s'.size∧(∃y,RepC P φ s' (memM w) cs' y∧s'.bulk y≤Rows.uptoBulk (Dn i))∧∀j,j<s'.size→c[o+i*s'.size+j]?=cs'[j]?:=by
      intro i hlt
      obtain ⟨cs',k1,k2,k3⟩:=each i hlt
      refine ⟨cs',k1,k2,fun j hj=>?_⟩
      rw [← k3 j hj,addz,addz,cellc]
     have hbig:o+len*s'.size≤c.size:=by
      obtain ⟨cs',k1,_,k3⟩:=each' (len-1) (by omega)
      have:=k3 (s'.size-1) (by omega)
      rw [List.getElem?_eq_getElem (by omega)] at this
      have:=(Array.getElem?_eq_some_iff.1 this).1
      have e:(len-1)*s'.size+s'.size=len*s'.size:=by rw [← Nat.succ_mul];congr 1;omega
      omega
     have hvl:((c.toList.drop o).take (len*s'.size)).length=len*s'.size:=by
      rw [List.length_take,List.length_drop]
      simp only [Array.length_toList]
      omega
     obtain ⟨ys,k1,k2,k3⟩:=rows_of (R:=RepC P φ s' (memM w)) (bk:=s'.bulk) len ((c.toList.drop o).take (len*s'.size)) (fun i=>Rows.uptoBulk (Dn i)) hvl fun i hlt=>by
      obtain ⟨cs',q1,⟨y,q2,qb⟩,q3⟩:=each' i hlt
      refine ⟨y,?_,qb⟩
      have hle:i*s'.size+s'.size≤len*s'.size:=by rw [← Nat.succ_mul];exact Nat.mul_le_mul_right _ hlt
      have:(((c.toList.drop o).take (len*s'.size)).drop (i*s'.size)).take s'.size=cs':=by
       apply List.ext_getElem?
       intro j
       by_cases hj:j<s'.size
       ·rw [List.getElem?_take_of_lt hj,List.getElem?_drop,List.getElem?_take_of_lt (by omega),List.getElem?_drop,← q3 j hj]
        simp [Nat.add_assoc]
       ·rw [List.getElem?_eq_none (by rw [List.length_take];omega),List.getElem?_eq_none (by omega)]
      rw [this]
      exact q2
     refine ⟨ys,⟨some ⟨b,o,none⟩,len,cap,_,rfl,k1,⟨hl,hm⟩,fun q hq=>⟨b,o,c,rfl,e2,?_⟩,k2⟩,?_⟩
     ·rw [hvl] at hq
      rw [List.getElem?_take_of_lt hq,List.getElem?_drop]
      simp
     ·show (List.map s'.bulk ys).sum+1≤Rows.uptoBulk (.slice ((List.range len).map Dn) _)
      rw [Rows.uptoBulk,bulkAll_sum,List.map_map]
      have e:(List.map (Rows.uptoBulk ∘ Dn) (List.range len)).sum=(List.map (fun i=>Rows.uptoBulk (Dn i)) (List.range len)).sum:=rfl
      omega
  ·rename_i fs s' hu
   simp only [Bool.and_eq_true] at h
   obtain ⟨h1,h2⟩:=h
   have h2:=Nat.eq_of_beq_eq_true h2
   obtain ⟨xs,m,_,rfl,hlen,hxl,hx⟩:=DataW.trod_struct hu ht
   obtain ⟨y,k1,k2⟩:=open_go ih (m:=m) (cs:=cs) fs.toList xs 0 s' h1 (by rw [hxl];simp) (fun i f hi=>by
    rw [Array.getElem?_toList] at hi
    have h3:=hx i f hi
    have hlt:i<fs.size:=(Array.getElem?_eq_some_iff.1 hi).1
    rw [List.getElem?_eq_getElem (by omega)] at h3
    exact ⟨_,List.getElem?_eq_getElem (by omega),h3⟩) (by omega)
   rw [List.drop_zero] at k1
   refine ⟨y,k1,?_⟩
   show s'.bulk y+1≤Rows.uptoBulk (.agg (xs.map (·.1)))
   rw [Rows.uptoBulk]
   omega
  ·cases h
theorem open_shB {W:World} {b0:Nat} {v:Value} {d:DataW H} {p:List MemPlace} {sp:Nat→Bool} {t:TypeId} {n:Nat} (s:Sh) (hs:opSh P (n+1) t s=true) (hf:s.fixed=true) (hv:Value.okWide P W .any b0 t v) (h:DataW.Trod enc P W 0 sp true t v d p):∃x:s.ty,RelV P (memM W) φ0 (.v s x) v∧s.bulk x≤Rows.uptoBulk d:=by
 obtain ⟨fuel,hg⟩:=h
 obtain ⟨y,hy,hbk⟩:=open_cells (φ:=φ0) (n+1) t s fuel _ _ hs hg
 refine ⟨y,⟨hf,_,?_,hy⟩,hbk⟩
 have agg:(∃cs:Array Value,v=.agg cs)→s.agg=true→v=mkV s v.cells.toList:=by
  rintro ⟨cs,rfl⟩ ha
  simp [mkV,ha,Value.cells]
 have one:s.agg=false→(∀cs:Array Value,v≠.agg cs)→v=mkV s v.cells.toList:=by
  intro ha hne
  unfold mkV
  rw [ha]
  cases v<;>first|rfl|exact absurd rfl (hne _)
 cases hu:P.underlying t with
 | none=>simp [opSh,hu] at hs
 | some td =>
  simp only [opSh,hu] at hs
  split at hs
  ·rename_i h1;simp only [injEq] at h1;subst h1
   refine one rfl fun cs e=>?_
   subst e
   simp [Value.okWide,hu,Cell.okWide,Cell.ok] at hv
  ·rename_i h1;simp only [injEq] at h1;subst h1
   refine one rfl fun cs e=>?_
   subst e
   simp [Value.okWide,hu,Cell.okWide,Cell.ok] at hv
  ·rename_i h1;simp only [injEq] at h1;subst h1
   refine one rfl fun cs e=>?_
   subst e
   simp [Value.okWide,hu,Cell.okWide,Cell.ok] at hv
  ·rename_i h1;simp only [injEq] at h1;subst h1
   simp only [Value.okWide,hu] at hv
   obtain ⟨cs,h1,h2,_⟩:=hv
   exact agg ⟨cs,h1⟩ rfl
  ·rename_i h1;simp only [injEq] at h1;subst h1
   obtain ⟨a,len,cap,rfl⟩:=okWide_slice hu hv
   rfl
  ·rename_i h1;simp only [injEq] at h1;subst h1
   simp only [Value.okWide,hu] at hv
   obtain ⟨cs,h1,h2,_⟩:=hv
   exact agg ⟨cs,h1⟩ rfl
  ·cases hs
end
end Go.Proofs.YtglfdihomfhmmaaGreatDoor
