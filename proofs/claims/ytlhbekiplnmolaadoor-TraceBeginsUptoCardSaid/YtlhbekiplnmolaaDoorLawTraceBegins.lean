/- TraceBegins: for every input whose reading is of bulk at most 1048576 the call returns true, and its arguments read as before; the bound is the one condition. -/
import Derived.Test.YtlhbekiplnmolaaDoorRows
import Derived.Test.YtlhbekiplnmolaaDoorEL
import Derived.Test.YtlhbekiplnmolaaDoorCards
import Derived.Test.YtlhbekiplnmolaaDoorTie
import Derived.Test.YtlhbekiplnmolaaDoorZx
import Derived.Test.YtlhbekiplnmolaaDoorT8
import Derived.WalkKit
import Derived.ProofKit
import Derived.OpenShut
import Derived.ChangeOld
import Derived.Below
import Derived.SizedLaws
import Derived.Deep.DeepHandedRow
import Derived.Lib.LaidTab
import Derived.Shelf.Vars
import Derived.Stop.LaidErr
set_option linter.unusedVariables false
namespace Go.Proofs.YtlhbekiplnmolaaDoor.traceBegins
open Go.ChangeShapes Go.WideShapes Go.ChangeAt Go.RowKit
set_option maxRecDepth 20000
theorem params_ok : ∀ t ∈ Tryd.f5.params.toList, Tryd.prog.readableRec t = true ∧ t < Tryd.prog.types.size := by
  rw [Tryd.params5]
  intro t ht
  simp only [List.mem_cons, List.mem_nil_iff, or_false] at ht
  rcases ht with rfl | rfl
  · exact ⟨by kernel_rfl, of_decide_eq_true (by kernel_rfl)⟩
  · exact ⟨by kernel_rfl, of_decide_eq_true (by kernel_rfl)⟩
theorem table {W : World} (h : laidMet Tryd.prog Rows.traceBeginsUptoRow.laid W) : Lib.TabIs Tryd.prog W "internal/strconv.uint64pow10" .u64 Lib.pow10Tab :=
  Lib.tabIs_of_head (g := 0) (t := 98) (e := 24) (n := 20) (by kernel_rfl) (by kernel_rfl) (by kernel_rfl) (by kernel_rfl) (by kernel_rfl) (by kernel_rfl) (laidMet.tail (laidMet.tail h))
theorem gl {W : World} (h : laidMetH Tryd.prog Rows.traceBeginsUptoRow.laid W) (hs : W.ShapedOpen Tryd.prog) : GL (memM W) := by
  obtain ⟨m, hm⟩ := Go.Proofs.cell_of_shapedOpen_int (g := 1) (t := 3) (zero := #[.int .i64 0]) (k := .i64) hs (of_decide_eq_true (by kernel_rfl)) (by kernel_rfl) rfl (by kernel_rfl) (by kernel_rfl) (by kernel_rfl)
  obtain ⟨b, o, c, e1, e2, e3⟩ := cell_mem hm
  simp only [Addr.mk.injEq] at e1
  obtain ⟨rfl, rfl, _⟩ := e1
  refine gl_of (table h) (c := c) (m := m) ?_ e3
  have hg : Tryd.prog.globalNamed "internal/bytealg.MaxLen" = some 1 := by kernel_rfl
  unfold World.var?
  rw [hg]
  exact e2
theorem contract (H : Type) (enc : TypeId × Value → H) (W : World) (args : Array Value) (ds gs : List (DataW H)) (before : List MemPlace)
    (base : Nat) (hval0 : ∀ (j : Nat) t v, Tryd.f5.params[j]? = some t → args[j]? = some v → Value.okWide Tryd.prog W .any base t v)
    (hW : DataW.Whole enc Tryd.prog Tryd.f5.params.toList Rows.traceBeginsSpec.vars false W args.toList ds gs before) (hk0 : Rows.uptoSmall H (ds ++ gs) = true)
    (hsz0 : (DataW.weightsEach Tryd.prog (Tryd.f5.params.toList ++ (Rows.OpenSpec.upto Rows.traceBeginsSpec).bare.plain.varTypes Tryd.prog) (ds ++ gs)).all (· ≤ reachBytes) = true) (hL : laidMetH Tryd.prog Rows.traceBeginsUptoRow.laid W) (hS : W.ShapedOpen Tryd.prog) :
    Calls Tryd.prog 5 args W fun e W' => ∃ v, e = .returned v ∧ Rows.traceBeginsSpec.post enc Tryd.prog Tryd.f5 false true false false W args v W' := by
  have hval : ∀ (j : Nat) t v, Tryd.f5.params[j]? = some t → args[j]? = some v → Value.okWide Tryd.prog W .any base t v := hval0
  have hsz : (DataW.weightsEach Tryd.prog (Tryd.f5.params.toList ++ (Rows.OpenSpec.upto Rows.traceBeginsSpec).bare.plain.varTypes Tryd.prog) (ds ++ gs)).all (· ≤ reachBytes) = true := hsz0
  have hW' := hW
  obtain ⟨p, q, hA0, hV, rfl, hfz, hnd⟩ := hW'
  have hA : DataW.TrodAll enc Tryd.prog W 0 (fun _ => true) true Tryd.f5.params.toList args.toList ds p := hA0
  rw [Tryd.params5] at hA hval hsz
  obtain ⟨v0, vs0, d0, ds0, p0, q0, hargs, rfl, rfl, h0, r0⟩ := trodAll_cons hA
  obtain ⟨v1, vs1, d1, ds1, p1, q1, rfl, rfl, rfl, h1, r1⟩ := trodAll_cons r0
  obtain ⟨rfl, rfl, rfl⟩ := trodAll_nil r1
  obtain rfl : args = #[v0, v1] := by cases args; simp_all
  obtain ⟨rfl, rfl⟩ := trodVars_none hV
  obtain ⟨x0, w0, b0⟩ := open_shB (n := 19) (.sl S35) (by kernel_rfl) rfl (hval 0 22 v0 rfl rfl) h0
  obtain ⟨x1, w1, b1⟩ := open_shB (n := 19) (.sl S35) (by kernel_rfl) rfl (hval 1 22 v1 rfl rfl) h1
  have hk : Rows.uptoBulkAll [d0, d1] ≤ 1048576 := of_decide_eq_true hk0
  simp only [Rows.uptoBulkAll] at hk
  refine (law_walk (gl hL hS) (W_congresslaw26_TraceBegins (l_TraceBegins (lsm_of (relV_ok w0) (by omega)) (lsm_of (relV_ok w1) (by omega)))) (us := [v0, v1]) ⟨v0, _, rfl, w0, ⟨v1, _, rfl, w1, rfl⟩⟩).mono fun e W' ⟨he, hb⟩ => ⟨_, he, ?_⟩
  exact law_post Tryd.laidOut params_ok rfl Tryd.underlying4 rfl hW rfl rfl rfl hb

def laidCells (cs : Array Value) : Obj → Obj
  | .cells _ t frozen => .cells cs t frozen
  | o => o
noncomputable def laidHeap (h : Array Obj) : Array Obj := (Array.modify (Array.modify (Array.modify h 2 (laidCells ((.int .u8 0 : Value) :: .int .u8 1 :: .int .u8 28 :: .int .u8 2 :: .int .u8 29 :: .int .u8 14 :: .int .u8 24 :: .int .u8 3 :: .int .u8 30 :: .int .u8 22 :: .int .u8 20 :: .int .u8 15 :: .int .u8 25 :: .int .u8 17 :: .int .u8 4 :: .int .u8 8 :: .int .u8 31 :: .int .u8 27 :: .int .u8 13 :: .int .u8 23 :: .int .u8 21 :: .int .u8 19 :: .int .u8 16 :: .int .u8 7 :: .int .u8 26 :: .int .u8 12 :: .int .u8 18 :: .int .u8 6 :: .int .u8 11 :: .int .u8 5 :: .int .u8 10 :: .int .u8 9 :: ([] : List Value)).toArray)) 3 (laidCells ((.int .u8 0 : Value) :: .int .u8 1 :: .int .u8 56 :: .int .u8 2 :: .int .u8 57 :: .int .u8 49 :: .int .u8 28 :: .int .u8 3 :: .int .u8 61 :: .int .u8 58 :: .int .u8 42 :: .int .u8 50 :: .int .u8 38 :: .int .u8 29 :: .int .u8 17 :: .int .u8 4 :: .int .u8 62 :: .int .u8 47 :: .int .u8 59 :: .int .u8 36 :: .int .u8 45 :: .int .u8 43 :: .int .u8 51 :: .int .u8 22 :: .int .u8 53 :: .int .u8 39 :: .int .u8 33 :: .int .u8 30 :: .int .u8 24 :: .int .u8 18 :: .int .u8 12 :: .int .u8 5 :: .int .u8 63 :: .int .u8 55 :: .int .u8 48 :: .int .u8 27 :: .int .u8 60 :: .int .u8 41 :: .int .u8 37 :: .int .u8 16 :: .int .u8 46 :: .int .u8 35 :: .int .u8 44 :: .int .u8 21 :: .int .u8 52 :: .int .u8 32 :: .int .u8 23 :: .int .u8 11 :: .int .u8 54 :: .int .u8 26 :: .int .u8 40 :: .int .u8 15 :: .int .u8 34 :: .int .u8 20 :: .int .u8 31 :: .int .u8 10 :: .int .u8 25 :: .int .u8 14 :: .int .u8 19 :: .int .u8 9 :: .int .u8 13 :: .int .u8 8 :: .int .u8 7 :: .int .u8 6 :: ([] : List Value)).toArray)) 0 (laidCells ((.int .u64 1 : Value) :: .int .u64 10 :: .int .u64 100 :: .int .u64 1000 :: .int .u64 10000 :: .int .u64 100000 :: .int .u64 1000000 :: .int .u64 10000000 :: .int .u64 100000000 :: .int .u64 1000000000 :: .int .u64 10000000000 :: .int .u64 100000000000 :: .int .u64 1000000000000 :: .int .u64 10000000000000 :: .int .u64 100000000000000 :: .int .u64 1000000000000000 :: .int .u64 10000000000000000 :: .int .u64 100000000000000000 :: .int .u64 1000000000000000000 :: .int .u64 10000000000000000000 :: ([] : List Value)).toArray))
noncomputable def laidWorld (os : Os) : World :=
  { World.holding Tryd.prog os ⟨#[], #[], []⟩ with heap := laidHeap (World.holding Tryd.prog os ⟨#[], #[], []⟩).heap }
def wit : Array Value := #[.slice none 0 0, .slice none 0 0]
theorem laid_met (os : Os) : laidMet Tryd.prog Rows.traceBeginsUptoRow.laid ((laidWorld os).forCall (fun _ _ => 0) ⟨#[], wit, []⟩).memory :=
  laidMet_of_run' 8 (by kernel_rfl) (by kernel_rfl)
theorem reads (os : Os) {H : Type} (enc : TypeId × Value → H) : ∃ places, DataW.whole enc Tryd.prog ((laidWorld os).forCall (fun _ _ => 0) ⟨#[], wit, []⟩).memory Tryd.f5.params.toList Rows.traceBeginsSpec.vars false wit.toList 8 = some ([.nil, .nil], [], places) :=
  ⟨[], by kernel_rfl⟩
set_option maxRecDepth 100000 in
theorem lifted (os : Os) (started : os.Started) (H : Type) (enc : TypeId × Value → H) (F : Stop.Interp) :
    ReturnsInHanded {} Tryd.checked os 5 .any ((Rows.OpenSpec.upto Rows.traceBeginsSpec).preRow enc Tryd.prog Tryd.f5 Rows.traceBeginsUptoRow.domain false Rows.traceBeginsUptoRow.laid) (((Rows.OpenSpec.upto Rows.traceBeginsSpec).at F).post enc Tryd.prog Tryd.f5 false true false false) := by
  obtain ⟨places, hx⟩ := reads os enc
  refine returnsInHanded_of_row (C := Tryd.checked) (s := (Rows.OpenSpec.upto Rows.traceBeginsSpec)) Tryd.own started (by kernel_rfl) Tryd.func5
    (witness_row_at (enc := enc) (C := Tryd.checked) false (laidWorld os) wit rfl (by kernel_rfl) (by kernel_rfl) (by kernel_rfl)
      (OpenSpec.preRow_of_cond 8 hx (by kernel_rfl) (fun k hk => by cases hk; kernel_rfl) (by kernel_rfl) (laid_met os))) ?_
  intro W base args ds gs before hval hW _ hcond hreach hL hS _
  exact contract H enc W args ds gs before base hval hW (hcond _ rfl) hreach hL hS
theorem said : Rows.TraceBeginsUptoSaid :=
  OpenClaim.holds_of_cond 5 Tryd.f5 rfl rfl rfl rfl rfl rfl rfl ⟨rfl, rfl, rfl, rfl, rfl⟩ rfl rfl rfl rfl rfl (by kernel_rfl) Tryd.func5 (by kernel_rfl)
    (of_decide_eq_true (by kernel_rfl)) (by unfold Func.isWrapper; first | (rw [if_pos (by decide +kernel)]; kernel_rfl) | (rw [if_neg (by decide +kernel)]; exact ⟨rfl, rfl⟩))
    (fun os started H enc _ F => by rw [OpenClaim.pre_eq_preRow]; exact lifted os started H enc F)
theorem plain (f : FuncId) (fn : Func) (hf : Tryd.pinned.checked.prog.funcNamed "congress/congresslaw26.TraceBegins" = some f) (hfn : Tryd.pinned.checked.prog.funcs[f]? = some fn) :
    false = Tryd.pinned.checked.prog.looks [] ∧ ∀ (j : Nat) t, fn.params[j]? = some t → Tryd.pinned.checked.prog.wantsStandIn t = false := by
  obtain rfl : f = 5 := Option.some.inj ((show Tryd.prog.funcNamed "congress/congresslaw26.TraceBegins" = some 5 by kernel_rfl).symm.trans hf) |>.symm
  obtain rfl : fn = Tryd.f5 := (Option.some.inj (Tryd.func5.symm.trans hfn)).symm
  refine ⟨by kernel_rfl, fun j t ht => ?_⟩
  rw [Tryd.params5] at ht
  have hm := Array.mem_of_getElem? ht
  simp only [List.mem_toArray, List.mem_cons, List.mem_nil_iff, or_false] at hm
  rcases hm with rfl | rfl
  · exact (show Tryd.prog.wantsStandIn 22 = false by kernel_rfl)
  · exact (show Tryd.prog.wantsStandIn 22 = false by kernel_rfl)
/-- The card. -/
theorem card : Rows.TraceBeginsUptoCardSaid :=
  Claim7.holds_tied_plain_at .later [] _ _ _ _ said (fun _ h => by cases h) (by kernel_rfl) (fun _ h => by cases h) traceBeginsUpto_row_tie rfl ⟨rfl, rfl⟩ (by kernel_rfl) rfl plain (by kernel_rfl)
end Go.Proofs.YtlhbekiplnmolaaDoor.traceBegins
theorem Go.Proofs.YtlhbekiplnmolaaDoor.TraceBegins_holds : Go.Proofs.YtlhbekiplnmolaaDoor.Rows.TraceBeginsUptoCardSaid := Go.Proofs.YtlhbekiplnmolaaDoor.traceBegins.card
