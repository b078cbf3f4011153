/- TraceParts: for every input whose reading is of bulk at most 1048576 the call returns true, and its arguments read as before; the bound is the one condition (without it the statement is false by size). -/
import Derived.Test.YtlhbekiplnmolaaDoorRows
import Derived.Test.YtlhbekiplnmolaaDoorEL
import Derived.Test.YtlhbekiplnmolaaDoorCards
import Derived.Test.YtlhbekiplnmolaaDoorTie
import Derived.Test.YtlhbekiplnmolaaDoorZx
import Derived.Test.YtlhbekiplnmolaaDoorT8
import Derived.WalkKit
import Derived.ProofKit
import Derived.OpenShut
import Derived.ChangeOld
import Derived.Below
import Derived.SizedLaws
import Derived.Deep.DeepHandedRow
import Derived.Lib.LaidTab
import Derived.Shelf.Vars
import Derived.Stop.LaidErr
set_option linter.unusedVariables false
namespace Go.Proofs.YtlhbekiplnmolaaDoor.traceParts
open Go.ChangeShapes Go.WideShapes Go.ChangeAt Go.RowKit
set_option maxRecDepth 20000
theorem params_ok : ∀ t ∈ Tryd.f6.params.toList, Tryd.prog.readableRec t = true ∧ t < Tryd.prog.types.size := by
  rw [Tryd.params6]
  intro t ht
  simp only [List.mem_cons, List.mem_nil_iff, or_false] at ht
  rcases ht with rfl | rfl | rfl
  · exact ⟨by kernel_rfl, of_decide_eq_true (by kernel_rfl)⟩
  · exact ⟨by kernel_rfl, of_decide_eq_true (by kernel_rfl)⟩
  · exact ⟨by kernel_rfl, of_decide_eq_true (by kernel_rfl)⟩
theorem table {W : World} (h : laidMet Tryd.prog Rows.tracePartsUptoRow.laid W) : Lib.TabIs Tryd.prog W "internal/strconv.uint64pow10" .u64 Lib.pow10Tab :=
  Lib.tabIs_of_head (g := 0) (t := 98) (e := 24) (n := 20) (by kernel_rfl) (by kernel_rfl) (by kernel_rfl) (by kernel_rfl) (by kernel_rfl) (by kernel_rfl) (laidMet.tail (laidMet.tail h))
theorem gl {W : World} (h : laidMetH Tryd.prog Rows.tracePartsUptoRow.laid W) (hs : W.ShapedOpen Tryd.prog) : GL (memM W) := by
  obtain ⟨m, hm⟩ := Go.Proofs.cell_of_shapedOpen_int (g := 1) (t := 3) (zero := #[.int .i64 0]) (k := .i64) hs (of_decide_eq_true (by kernel_rfl)) (by kernel_rfl) rfl (by kernel_rfl) (by kernel_rfl) (by kernel_rfl)
  obtain ⟨b, o, c, e1, e2, e3⟩ := cell_mem hm
  simp only [Addr.mk.injEq] at e1
  obtain ⟨rfl, rfl, _⟩ := e1
  refine gl_of (table h) (c := c) (m := m) ?_ e3
  have hg : Tryd.prog.globalNamed "internal/bytealg.MaxLen" = some 1 := by kernel_rfl
  unfold World.var?
  rw [hg]
  exact e2
theorem contract (H : Type) (enc : TypeId × Value → H) (W : World) (args : Array Value) (ds gs : List (DataW H)) (before : List MemPlace)
    (base : Nat) (hval0 : ∀ (j : Nat) t v, Tryd.f6.params[j]? = some t → args[j]? = some v → Value.okWide Tryd.prog W .any base t v)
    (hW : DataW.Whole enc Tryd.prog Tryd.f6.params.toList Rows.tracePartsSpec.vars false W args.toList ds gs before) (hk0 : Rows.uptoSmall H (ds ++ gs) = true)
    (hsz0 : (DataW.weightsEach Tryd.prog (Tryd.f6.params.toList ++ (Rows.OpenSpec.upto Rows.tracePartsSpec).bare.plain.varTypes Tryd.prog) (ds ++ gs)).all (· ≤ reachBytes) = true) (hL : laidMetH Tryd.prog Rows.tracePartsUptoRow.laid W) (hS : W.ShapedOpen Tryd.prog) :
    Calls Tryd.prog 6 args W fun e W' => ∃ v, e = .returned v ∧ Rows.tracePartsSpec.post enc Tryd.prog Tryd.f6 false true false false W args v W' := by
  have hval : ∀ (j : Nat) t v, Tryd.f6.params[j]? = some t → args[j]? = some v → Value.okWide Tryd.prog W .any base t v := hval0
  have hsz : (DataW.weightsEach Tryd.prog (Tryd.f6.params.toList ++ (Rows.OpenSpec.upto Rows.tracePartsSpec).bare.plain.varTypes Tryd.prog) (ds ++ gs)).all (· ≤ reachBytes) = true := hsz0
  have hW' := hW
  obtain ⟨p, q, hA0, hV, rfl, hfz, hnd⟩ := hW'
  have hA : DataW.TrodAll enc Tryd.prog W 0 (fun _ => true) true Tryd.f6.params.toList args.toList ds p := hA0
  rw [Tryd.params6] at hA hval hsz
  obtain ⟨v0, vs0, d0, ds0, p0, q0, hargs, rfl, rfl, h0, r0⟩ := trodAll_cons hA
  obtain ⟨v1, vs1, d1, ds1, p1, q1, rfl, rfl, rfl, h1, r1⟩ := trodAll_cons r0
  obtain ⟨v2, vs2, d2, ds2, p2, q2, rfl, rfl, rfl, h2, r2⟩ := trodAll_cons r1
  obtain ⟨rfl, rfl, rfl⟩ := trodAll_nil r2
  obtain rfl : args = #[v0, v1, v2] := by cases args; simp_all
  obtain ⟨rfl, rfl⟩ := trodVars_none hV
  obtain ⟨x0, w0, b0⟩ := open_shB (n := 19) (.sl S35) (by kernel_rfl) rfl (hval 0 22 v0 rfl rfl) h0
  obtain ⟨x1, w1, b1⟩ := open_shB (n := 19) S35 (by kernel_rfl) rfl (hval 1 35 v1 rfl rfl) h1
  obtain ⟨x2, w2, b2⟩ := open_shB (n := 19) (.int .i64) (by kernel_rfl) rfl (hval 2 3 v2 rfl rfl) h2
  have hk : Rows.uptoBulkAll [d0, d1, d2] ≤ 1048576 := of_decide_eq_true hk0
  simp only [Rows.uptoBulkAll] at hk
  refine (law_walk (gl hL hS) (W_congresslaw26_TraceParts (l_TraceParts (lsm_of (relV_ok w0) (by omega)) (sgOk (relV_ok w1)))) (us := [v0, v1, v2]) ⟨v0, _, rfl, w0, ⟨v1, _, rfl, w1, ⟨v2, _, rfl, w2, rfl⟩⟩⟩).mono fun e W' ⟨he, hb⟩ => ⟨_, he, ?_⟩
  exact law_post Tryd.laidOut params_ok rfl Tryd.underlying4 rfl hW rfl rfl rfl hb

def laidCells (cs : Array Value) : Obj → Obj
  | .cells _ t frozen => .cells cs t frozen
  | o => o
noncomputable def laidHeap (h : Array Obj) : Array Obj := (Array.modify (Array.modify (Array.modify h 2 (laidCells ((.int .u8 0 : Value) :: .int .u8 1 :: .int .u8 28 :: .int .u8 2 :: .int .u8 29 :: .int .u8 14 :: .int .u8 24 :: .int .u8 3 :: .int .u8 30 :: .int .u8 22 :: .int .u8 20 :: .int .u8 15 :: .int .u8 25 :: .int .u8 17 :: .int .u8 4 :: .int .u8 8 :: .int .u8 31 :: .int .u8 27 :: .int .u8 13 :: .int .u8 23 :: .int .u8 21 :: .int .u8 19 :: .int .u8 16 :: .int .u8 7 :: .int .u8 26 :: .int .u8 12 :: .int .u8 18 :: .int .u8 6 :: .int .u8 11 :: .int .u8 5 :: .int .u8 10 :: .int .u8 9 :: ([] : List Value)).toArray)) 3 (laidCells ((.int .u8 0 : Value) :: .int .u8 1 :: .int .u8 56 :: .int .u8 2 :: .int .u8 57 :: .int .u8 49 :: .int .u8 28 :: .int .u8 3 :: .int .u8 61 :: .int .u8 58 :: .int .u8 42 :: .int .u8 50 :: .int .u8 38 :: .int .u8 29 :: .int .u8 17 :: .int .u8 4 :: .int .u8 62 :: .int .u8 47 :: .int .u8 59 :: .int .u8 36 :: .int .u8 45 :: .int .u8 43 :: .int .u8 51 :: .int .u8 22 :: .int .u8 53 :: .int .u8 39 :: .int .u8 33 :: .int .u8 30 :: .int .u8 24 :: .int .u8 18 :: .int .u8 12 :: .int .u8 5 :: .int .u8 63 :: .int .u8 55 :: .int .u8 48 :: .int .u8 27 :: .int .u8 60 :: .int .u8 41 :: .int .u8 37 :: .int .u8 16 :: .int .u8 46 :: .int .u8 35 :: .int .u8 44 :: .int .u8 21 :: .int .u8 52 :: .int .u8 32 :: .int .u8 23 :: .int .u8 11 :: .int .u8 54 :: .int .u8 26 :: .int .u8 40 :: .int .u8 15 :: .int .u8 34 :: .int .u8 20 :: .int .u8 31 :: .int .u8 10 :: .int .u8 25 :: .int .u8 14 :: .int .u8 19 :: .int .u8 9 :: .int .u8 13 :: .int .u8 8 :: .int .u8 7 :: .int .u8 6 :: ([] : List Value)).toArray)) 0 (laidCells ((.int .u64 1 : Value) :: .int .u64 10 :: .int .u64 100 :: .int .u64 1000 :: .int .u64 10000 :: .int .u64 100000 :: .int .u64 1000000 :: .int .u64 10000000 :: .int .u64 100000000 :: .int .u64 1000000000 :: .int .u64 10000000000 :: .int .u64 100000000000 :: .int .u64 1000000000000 :: .int .u64 10000000000000 :: .int .u64 100000000000000 :: .int .u64 1000000000000000 :: .int .u64 10000000000000000 :: .int .u64 100000000000000000 :: .int .u64 1000000000000000000 :: .int .u64 10000000000000000000 :: ([] : List Value)).toArray))
noncomputable def laidWorld (os : Os) : World :=
  { World.holding Tryd.prog os ⟨#[], #[], []⟩ with heap := laidHeap (World.holding Tryd.prog os ⟨#[], #[], []⟩).heap }
def wit : Array Value := #[.slice none 0 0, .agg #[.int .i64 0, .int .i64 0, .int .u32 0, .int .i64 0, .int .u64 0, .int .i64 0, .int .i64 0, .int .u64 0, .int .u64 0, .int .i64 0, .int .u32 0, .int .u32 0, .int .u32 0, .int .u32 0, .int .u32 0, .int .u32 0, .int .i64 0, .int .i64 0, .int .u64 0, .string ⟨#[]⟩, .string ⟨#[]⟩], .int .i64 0]
theorem laid_met (os : Os) : laidMet Tryd.prog Rows.tracePartsUptoRow.laid ((laidWorld os).forCall (fun _ _ => 0) ⟨#[], wit, []⟩).memory :=
  laidMet_of_run' 8 (by kernel_rfl) (by kernel_rfl)
theorem reads (os : Os) {H : Type} (enc : TypeId × Value → H) : ∃ places, DataW.whole enc Tryd.prog ((laidWorld os).forCall (fun _ _ => 0) ⟨#[], wit, []⟩).memory Tryd.f6.params.toList Rows.tracePartsSpec.vars false wit.toList 8 = some ([.nil, .agg [.lit (.int .i64 0), .lit (.int .i64 0), .lit (.int .u32 0), .agg [.lit (.int .i64 0), .agg [.lit (.int .u64 0), .lit (.int .i64 0), .lit (.int .i64 0), .lit (.int .u64 0), .lit (.int .u64 0), .lit (.int .i64 0), .agg [.lit (.int .u32 0), .lit (.int .u32 0), .lit (.int .u32 0)], .agg [.lit (.int .u32 0), .lit (.int .u32 0), .lit (.int .u32 0)], .agg [.lit (.int .i64 0), .lit (.int .i64 0), .lit (.int .u64 0)], .lit (.string []), .lit (.string [])]]], .lit (.int .i64 0)], [], places) :=
  ⟨[], by kernel_rfl⟩
set_option maxRecDepth 100000 in
theorem lifted (os : Os) (started : os.Started) (H : Type) (enc : TypeId × Value → H) (F : Stop.Interp) :
    ReturnsInHanded {} Tryd.checked os 6 .any ((Rows.OpenSpec.upto Rows.tracePartsSpec).preRow enc Tryd.prog Tryd.f6 Rows.tracePartsUptoRow.domain false Rows.tracePartsUptoRow.laid) (((Rows.OpenSpec.upto Rows.tracePartsSpec).at F).post enc Tryd.prog Tryd.f6 false true false false) := by
  obtain ⟨places, hx⟩ := reads os enc
  refine returnsInHanded_of_row (C := Tryd.checked) (s := (Rows.OpenSpec.upto Rows.tracePartsSpec)) Tryd.own started (by kernel_rfl) Tryd.func6
    (witness_row_at (enc := enc) (C := Tryd.checked) false (laidWorld os) wit rfl (by kernel_rfl) (by kernel_rfl) (by kernel_rfl)
      (OpenSpec.preRow_of_cond 8 hx (by kernel_rfl) (fun k hk => by cases hk; kernel_rfl) (by kernel_rfl) (laid_met os))) ?_
  intro W base args ds gs before hval hW _ hcond hreach hL hS _
  exact contract H enc W args ds gs before base hval hW (hcond _ rfl) hreach hL hS
theorem said : Rows.TracePartsUptoSaid :=
  OpenClaim.holds_of_cond 6 Tryd.f6 rfl rfl rfl rfl rfl rfl rfl ⟨rfl, rfl, rfl, rfl, rfl⟩ rfl rfl rfl rfl rfl (by kernel_rfl) Tryd.func6 (by kernel_rfl)
    (of_decide_eq_true (by kernel_rfl)) (by unfold Func.isWrapper; first | (rw [if_pos (by decide +kernel)]; kernel_rfl) | (rw [if_neg (by decide +kernel)]; exact ⟨rfl, rfl⟩))
    (fun os started H enc _ F => by rw [OpenClaim.pre_eq_preRow]; exact lifted os started H enc F)
theorem plain (f : FuncId) (fn : Func) (hf : Tryd.pinned.checked.prog.funcNamed "congress/congresslaw26.TraceParts" = some f) (hfn : Tryd.pinned.checked.prog.funcs[f]? = some fn) :
    false = Tryd.pinned.checked.prog.looks [] ∧ ∀ (j : Nat) t, fn.params[j]? = some t → Tryd.pinned.checked.prog.wantsStandIn t = false := by
  obtain rfl : f = 6 := Option.some.inj ((show Tryd.prog.funcNamed "congress/congresslaw26.TraceParts" = some 6 by kernel_rfl).symm.trans hf) |>.symm
  obtain rfl : fn = Tryd.f6 := (Option.some.inj (Tryd.func6.symm.trans hfn)).symm
  refine ⟨by kernel_rfl, fun j t ht => ?_⟩
  rw [Tryd.params6] at ht
  have hm := Array.mem_of_getElem? ht
  simp only [List.mem_toArray, List.mem_cons, List.mem_nil_iff, or_false] at hm
  rcases hm with rfl | rfl | rfl
  · exact (show Tryd.prog.wantsStandIn 22 = false by kernel_rfl)
  · exact (show Tryd.prog.wantsStandIn 35 = false by kernel_rfl)
  · exact (show Tryd.prog.wantsStandIn 3 = false by kernel_rfl)
/-- The card. -/
theorem card : Rows.TracePartsUptoCardSaid :=
  Claim7.holds_tied_plain_at .later [] _ _ _ _ said (fun _ h => by cases h) (by kernel_rfl) (fun _ h => by cases h) tracePartsUpto_row_tie rfl ⟨rfl, rfl⟩ (by kernel_rfl) rfl plain (by kernel_rfl)
end Go.Proofs.YtlhbekiplnmolaaDoor.traceParts
theorem Go.Proofs.YtlhbekiplnmolaaDoor.TraceParts_holds : Go.Proofs.YtlhbekiplnmolaaDoor.Rows.TracePartsUptoCardSaid := Go.Proofs.YtlhbekiplnmolaaDoor.traceParts.card
