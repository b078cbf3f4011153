/- PackBack: for every number, two texts and a width the call returns true, and its arguments read as before; no condition. -/
import Derived.Test.YtnmdgaeclojgiaaDoorFrame
import Derived.Test.YtnmdgaeclojgiaaDoorW02h
namespace Go.Proofs.YtnmdgaeclojgiaaDoor.packBack
open Go.ChangeShapes Go.WideShapes Go.ChangeAt Go.RowKit

theorem packBack_params : ∀ t ∈ Tryd.f5.params.toList, Tryd.prog.readableRec t = true ∧ t < Tryd.prog.types.size := by
  rw [Tryd.params5]
  intro t ht
  simp only [List.mem_cons, List.mem_nil_iff, or_false] at ht
  rcases ht with rfl | rfl | rfl
  · exact ⟨by kernel_rfl, of_decide_eq_true (by kernel_rfl)⟩
  · exact ⟨by kernel_rfl, of_decide_eq_true (by kernel_rfl)⟩
  · exact ⟨by kernel_rfl, of_decide_eq_true (by kernel_rfl)⟩
theorem contract (H : Type) (enc : TypeId × Value → H) (W : World) (args : Array Value) (ds gs : List (DataW H)) (before : List MemPlace)
    (base : Nat) (hval : ∀ (j : Nat) t v, Tryd.f5.params[j]? = some t → args[j]? = some v → Value.okWide Tryd.prog W .any base t v)
    (hW : DataW.Whole enc Tryd.prog Tryd.f5.params.toList Rows.packBackSpec.vars false W args.toList ds gs before)
    (hreach : (DataW.weightsEach Tryd.prog (Tryd.f5.params.toList ++ (OpenSpec.ofChange Rows.packBackSpec).bare.plain.varTypes Tryd.prog) (ds ++ gs)).all (· ≤ reachBytes) = true) :
    Calls Tryd.prog 5 args W fun e W' => ∃ v, e = .returned v ∧ Rows.packBackSpec.post enc Tryd.prog Tryd.f5 false true false false W args v W' := by
  have hW' := hW
  obtain ⟨p, q, hA0, hV, rfl, hfz, hnd⟩ := hW
  have hA : DataW.TrodAll enc Tryd.prog W 0 (fun _ => true) true Tryd.f5.params.toList args.toList ds p := hA0
  rw [Tryd.params5] at hA hval hreach
  obtain ⟨v0, vs0, d0, ds0, p0, q0, hargs, rfl, rfl, h0, r0⟩ := trodAll_cons hA
  obtain ⟨v1, vs1, d1, ds1, p1, q1, rfl, rfl, rfl, h1, r1⟩ := trodAll_cons r0
  obtain ⟨v2, vs2, d2, ds2, p2, q2, rfl, rfl, rfl, h2, r2⟩ := trodAll_cons r1
  obtain ⟨rfl, rfl, rfl⟩ := trodAll_nil r2
  obtain rfl : args = #[v0, v1, v2] := by cases args; simp_all
  obtain ⟨rfl, rfl⟩ := trodVars_none hV
  obtain ⟨x0, rfl, rfl, rfl, w0⟩ := open_int Tryd.underlying22 (hval 0 22 v0 rfl rfl) h0
  obtain ⟨x0, rfl, b0⟩ := u64_nat w0
  obtain ⟨x1a, x1b, rfl, rfl⟩ := open_strs2 Tryd.underlying34 Tryd.underlying9 (by kernel_rfl) (by kernel_rfl) (hval 1 34 v1 rfl rfl) h1
  have hz1a : x1a.size ≤ reachBytes := by rw [← str_len]; simpa using List.all_eq_true.1 hreach _ (DataW.weights_mem_each (j := 1) rfl rfl x1a.data.toList.length (by simp [DataW.weights, DataW.weightsAll, Tryd.underlying34]))
  have hz1b : x1b.size ≤ reachBytes := by rw [← str_len]; simpa using List.all_eq_true.1 hreach _ (DataW.weights_mem_each (j := 1) rfl rfl x1b.data.toList.length (by simp [DataW.weights, DataW.weightsAll, Tryd.underlying34]))
  obtain ⟨x2, rfl, rfl, rfl, w2⟩ := open_int Tryd.underlying3 (hval 2 3 v2 rfl rfl) h2
  refine (packBack_walk x0 x1a x1b x2 W b0 (Nat.le_trans hz1a (by decide)) (Nat.le_trans hz1b (by decide))).mono fun e W' ⟨he, hb⟩ => ⟨_, he, ?_⟩
  exact law_post Tryd.laidOut packBack_params rfl Tryd.underlying4 rfl hW' rfl rfl rfl hb

theorem laid_met (os : Os) : laidMet Tryd.prog Rows.packBackRow.laid ((laidWorld os).forCall (fun _ _ => 0) ⟨#[], #[.int .u64 0, .agg #[.string ⟨#[]⟩, .string ⟨#[]⟩], .int .i64 0], []⟩).memory :=
  laidMet_of_run' 8 (by kernel_rfl) (by kernel_rfl)
theorem reads (os : Os) {H : Type} (enc : TypeId × Value → H) : ∃ places, DataW.whole enc Tryd.prog ((laidWorld os).forCall (fun _ _ => 0) ⟨#[], #[.int .u64 0, .agg #[.string ⟨#[]⟩, .string ⟨#[]⟩], .int .i64 0], []⟩).memory Tryd.f5.params.toList Rows.packBackSpec.vars false (#[.int .u64 0, .agg #[.string ⟨#[]⟩, .string ⟨#[]⟩], .int .i64 0] : Array Value).toList 8 = some ([.lit (.int .u64 0), .agg [.lit (.string []), .lit (.string [])], .lit (.int .i64 0)], [], places) :=
  ⟨[], by kernel_rfl⟩

set_option maxRecDepth 100000 in
theorem lifted (os : Os) (started : os.Started) (H : Type) (enc : TypeId × Value → H) (F : Stop.Interp) :
    ReturnsInHanded {} Tryd.checked os 5 .any ((OpenSpec.ofChange Rows.packBackSpec).preRow enc Tryd.prog Tryd.f5 Rows.packBackRow.domain false Rows.packBackRow.laid) (((OpenSpec.ofChange Rows.packBackSpec).at F).post enc Tryd.prog Tryd.f5 false true false false) := by
  obtain ⟨places, hx⟩ := reads os enc
  refine returnsInHanded_of_row (C := Tryd.checked) (s := OpenSpec.ofChange Rows.packBackSpec) Tryd.own started (by kernel_rfl) Tryd.func5
    (witness_row_at (enc := enc) (C := Tryd.checked) false (laidWorld os) #[.int .u64 0, .agg #[.string ⟨#[]⟩, .string ⟨#[]⟩], .int .i64 0] rfl (by kernel_rfl) (by kernel_rfl) (by kernel_rfl)
      (OpenSpec.preRow_of_cond 8 hx (by kernel_rfl) (fun k hk => by cases hk) (by kernel_rfl) (laid_met os))) ?_
  intro W base args ds gs before hval hW _ _ hreach _ _ _
  exact contract H enc W args ds gs before base hval hW hreach

theorem said : Rows.PackBackSaid :=
  OpenClaim.holds_of_cond 5 Tryd.f5 rfl rfl rfl rfl rfl rfl rfl ⟨rfl, rfl, rfl, rfl, rfl⟩ rfl rfl rfl rfl rfl (by kernel_rfl) Tryd.func5 (by kernel_rfl)
    (of_decide_eq_true (by kernel_rfl)) (by unfold Func.isWrapper; first | (rw [if_pos (by decide +kernel)]; kernel_rfl) | (rw [if_neg (by decide +kernel)]; exact ⟨rfl, rfl⟩))
    (fun os started H enc _ F => by rw [OpenClaim.pre_eq_preRow]; exact lifted os started H enc F)

theorem plain (f : FuncId) (fn : Func) (hf : Tryd.pinned.checked.prog.funcNamed "congress/congresslaw02.PackBack" = some f) (hfn : Tryd.pinned.checked.prog.funcs[f]? = some fn) :
    false = Tryd.pinned.checked.prog.looks [] ∧ ∀ (j : Nat) t, fn.params[j]? = some t → Tryd.pinned.checked.prog.wantsStandIn t = false := by
  obtain rfl : f = 5 := Option.some.inj ((show Tryd.prog.funcNamed "congress/congresslaw02.PackBack" = some 5 by kernel_rfl).symm.trans hf) |>.symm
  obtain rfl : fn = Tryd.f5 := (Option.some.inj (Tryd.func5.symm.trans hfn)).symm
  refine ⟨by kernel_rfl, fun j t ht => ?_⟩
  rw [Tryd.params5] at ht
  have hm := Array.mem_of_getElem? ht
  simp only [List.mem_toArray, List.mem_cons, List.mem_nil_iff, or_false] at hm
  rcases hm with rfl | rfl | rfl
  · exact (show Tryd.prog.wantsStandIn 22 = false by kernel_rfl)
  · exact (show Tryd.prog.wantsStandIn 34 = false by kernel_rfl)
  · exact (show Tryd.prog.wantsStandIn 3 = false by kernel_rfl)

/-- The card. -/
theorem card : Rows.PackBackCardSaid :=
  Claim7.holds_tied_plain_at .later [] _ _ _ _ said (fun _ h => by cases h) (by kernel_rfl) (fun _ h => by cases h) packBack_row_tie rfl ⟨rfl, rfl⟩ (by kernel_rfl) rfl plain (by kernel_rfl)

end Go.Proofs.YtnmdgaeclojgiaaDoor.packBack

theorem Go.Proofs.YtnmdgaeclojgiaaDoor.PackBack_holds : Go.Proofs.YtnmdgaeclojgiaaDoor.Rows.PackBackCardSaid := Go.Proofs.YtnmdgaeclojgiaaDoor.packBack.card
