/- PacketFields: for every packet and counts the call returns true, and its arguments read as before; no condition. -/
import Derived.Test.YthapghhmeicbnaaDoorFrame
import Derived.Test.YthapghhmeicbnaaDoorOpenP
import Derived.Test.YthapghhmeicbnaaDoorKS2
namespace Go.Proofs.YthapghhmeicbnaaDoor.packetFields
open Go.ChangeShapes Go.WideShapes Go.ChangeAt Go.RowKit
set_option maxRecDepth 20000

theorem packetFields_params : ∀ t ∈ Tryd.f8.params.toList, Tryd.prog.readableRec t = true ∧ t < Tryd.prog.types.size := by
  rw [Tryd.params8]
  intro t ht
  simp only [List.mem_cons, List.mem_nil_iff, or_false] at ht
  rcases ht with rfl | rfl
  · exact ⟨by kernel_rfl, of_decide_eq_true (by kernel_rfl)⟩
  · exact ⟨by kernel_rfl, of_decide_eq_true (by kernel_rfl)⟩
theorem contract (H : Type) (enc : TypeId × Value → H) (W : World) (args : Array Value) (ds gs : List (DataW H)) (before : List MemPlace)
    (base : Nat) (hval : ∀ (j : Nat) t v, Tryd.f8.params[j]? = some t → args[j]? = some v → Value.okWide Tryd.prog W .any base t v)
    (hW : DataW.Whole enc Tryd.prog Tryd.f8.params.toList Rows.packetFieldsSpec.vars false W args.toList ds gs before)
    (hreach : (DataW.weightsEach Tryd.prog (Tryd.f8.params.toList ++ (OpenSpec.ofChange Rows.packetFieldsSpec).bare.plain.varTypes Tryd.prog) (ds ++ gs)).all (· ≤ reachBytes) = true) :
    Calls Tryd.prog 8 args W fun e W' => ∃ v, e = .returned v ∧ Rows.packetFieldsSpec.post enc Tryd.prog Tryd.f8 false true false false W args v W' := by
  have hW' := hW
  obtain ⟨p, q, hA0, hV, rfl, hfz, hnd⟩ := hW
  have hA : DataW.TrodAll enc Tryd.prog W 0 (fun _ => true) true Tryd.f8.params.toList args.toList ds p := hA0
  rw [Tryd.params8] at hA hval hreach
  obtain ⟨v0, vs0, d0, ds0, p0, q0, hargs, rfl, rfl, h0, r0⟩ := trodAll_cons hA
  obtain ⟨v1, vs1, d1, ds1, p1, q1, rfl, rfl, rfl, h1, r1⟩ := trodAll_cons r0
  obtain ⟨rfl, rfl, rfl⟩ := trodAll_nil r1
  obtain rfl : args = #[v0, v1] := by cases args; simp_all
  obtain ⟨rfl, rfl⟩ := trodVars_none hV
  obtain ⟨x0, w0, rfl⟩ := open_packet (hval 0 35 v0 rfl rfl) h0
  obtain ⟨x1, w1, rfl⟩ := open_counts (hval 1 27 v1 rfl rfl) h1
  refine ((below_of_pf (packetFields_pf x0 w0 x1 w1) W)).mono fun e W' ⟨he, hb⟩ => ⟨_, he, ?_⟩
  exact law_post Tryd.laidOut packetFields_params rfl Tryd.underlying4 rfl hW' rfl rfl rfl hb

def wit : Array Value := #[.agg (.int .u32 0 :: .int .u32 0 :: .int .u32 0 :: .int .u32 0 :: .int .u32 0 :: .int .u32 0 :: .int .u32 0 :: .int .u32 0 :: .int .u32 0 :: .int .u32 0 :: .int .u32 0 :: .int .u32 0 :: .int .u32 0 :: .int .u32 0 :: .int .u32 0 :: .int .u32 0 :: .int .u32 0 :: .int .u32 0 :: .int .u32 0 :: .int .u32 0 :: .int .u32 0 :: .int .u32 0 :: .int .u32 0 :: .int .u32 0 :: .int .u32 0 :: .int .u32 0 :: .int .u32 0 :: .int .u32 0 :: .int .u32 0 :: .int .u32 0 :: .int .u32 0 :: .int .u32 0 :: .bool false :: .int .u32 0 :: .int .u32 0 :: .int .i64 0 :: .int .i64 0 :: .int .i64 0 :: .int .u64 0 :: .int .u64 0 :: .string ⟨#[]⟩ :: .int .i64 0 :: .int .i64 0 :: .int .i64 0 :: .int .u64 0 :: .int .u64 0 :: .string ⟨#[]⟩ :: .int .i64 0 :: .int .i64 0 :: .int .i64 0 :: .int .u64 0 :: .int .u64 0 :: .string ⟨#[]⟩ :: .int .i64 0 :: .int .i64 0 :: .int .i64 0 :: .int .u64 0 :: .int .u64 0 :: .string ⟨#[]⟩ :: .int .i64 0 :: .int .i64 0 :: .int .i64 0 :: .int .u64 0 :: .int .u64 0 :: .string ⟨#[]⟩ :: .int .i64 0 :: .int .i64 0 :: .int .i64 0 :: .int .u64 0 :: .int .u64 0 :: .string ⟨#[]⟩ :: .int .i64 0 :: .int .i64 0 :: .int .i64 0 :: .int .u64 0 :: .int .u64 0 :: .string ⟨#[]⟩ :: .int .i64 0 :: .int .i64 0 :: .int .i64 0 :: .int .u64 0 :: .int .u64 0 :: .string ⟨#[]⟩ :: .int .i64 0 :: .int .i64 0 :: .int .i64 0 :: .int .u64 0 :: .int .u64 0 :: .string ⟨#[]⟩ :: .int .i64 0 :: .int .i64 0 :: .int .i64 0 :: .int .u64 0 :: .int .u64 0 :: .string ⟨#[]⟩ :: .int .i64 0 :: .int .i64 0 :: .int .i64 0 :: .int .u64 0 :: .int .u64 0 :: .string ⟨#[]⟩ :: .int .i64 0 :: .int .i64 0 :: .int .i64 0 :: .int .u64 0 :: .int .u64 0 :: .string ⟨#[]⟩ :: .int .u32 0 :: .int .u32 0 :: .int .i64 0 :: .int .i64 0 :: .int .i64 0 :: .int .u64 0 :: .int .u64 0 :: .string ⟨#[]⟩ :: .int .i64 0 :: .int .i64 0 :: .int .i64 0 :: .int .u64 0 :: .int .u64 0 :: .string ⟨#[]⟩ :: .int .i64 0 :: .int .i64 0 :: .int .i64 0 :: .int .u64 0 :: .int .u64 0 :: .string ⟨#[]⟩ :: .int .i64 0 :: .int .i64 0 :: .int .i64 0 :: .int .u64 0 :: .int .u64 0 :: .string ⟨#[]⟩ :: .int .i64 0 :: .int .i64 0 :: .int .i64 0 :: .int .u64 0 :: .int .u64 0 :: .string ⟨#[]⟩ :: .int .i64 0 :: .int .i64 0 :: .int .i64 0 :: .int .u64 0 :: .int .u64 0 :: .string ⟨#[]⟩ :: ([] : List Value)).toArray, .agg #[.int .u32 0, .int .u32 0, .int .u32 0, .int .u32 0, .int .u32 0, .int .u32 0, .int .u32 0, .int .u32 0]]
theorem laid_met (os : Os) : laidMet Tryd.prog Rows.packetFieldsRow.laid ((laidWorld os).forCall (fun _ _ => 0) ⟨#[], wit, []⟩).memory :=
  laidMet_of_run' 8 (by kernel_rfl) (by kernel_rfl)
theorem reads (os : Os) {H : Type} (enc : TypeId × Value → H) : ∃ places, DataW.whole enc Tryd.prog ((laidWorld os).forCall (fun _ _ => 0) ⟨#[], wit, []⟩).memory Tryd.f8.params.toList Rows.packetFieldsSpec.vars false (wit : Array Value).toList 8 = some ([.agg [.lit (.int .u32 0), .lit (.int .u32 0), .agg [.lit (.int .u32 0), .lit (.int .u32 0), .lit (.int .u32 0)], .agg [.lit (.int .u32 0), .lit (.int .u32 0), .lit (.int .u32 0), .lit (.int .u32 0), .lit (.int .u32 0), .lit (.int .u32 0), .lit (.int .u32 0), .lit (.int .u32 0)], .agg [.lit (.int .u32 0), .lit (.int .u32 0), .lit (.int .u32 0), .lit (.int .u32 0), .lit (.int .u32 0), .lit (.int .u32 0), .lit (.int .u32 0), .lit (.int .u32 0)], .agg [.lit (.int .u32 0), .lit (.int .u32 0), .lit (.int .u32 0)], .agg [.lit (.int .u32 0), .lit (.int .u32 0), .lit (.int .u32 0), .lit (.int .u32 0), .lit (.int .u32 0), .lit (.int .u32 0), .lit (.int .u32 0), .lit (.int .u32 0)], .lit (.bool false), .lit (.int .u32 0), .lit (.int .u32 0), .agg [.agg [.agg [.lit (.int .i64 0), .lit (.int .i64 0), .lit (.int .i64 0), .lit (.int .u64 0), .lit (.int .u64 0), .lit (.string [])], .agg [.lit (.int .i64 0), .lit (.int .i64 0), .lit (.int .i64 0), .lit (.int .u64 0), .lit (.int .u64 0), .lit (.string [])]], .agg [.agg [.lit (.int .i64 0), .lit (.int .i64 0), .lit (.int .i64 0), .lit (.int .u64 0), .lit (.int .u64 0), .lit (.string [])], .agg [.lit (.int .i64 0), .lit (.int .i64 0), .lit (.int .i64 0), .lit (.int .u64 0), .lit (.int .u64 0), .lit (.string [])]], .agg [.agg [.lit (.int .i64 0), .lit (.int .i64 0), .lit (.int .i64 0), .lit (.int .u64 0), .lit (.int .u64 0), .lit (.string [])], .agg [.lit (.int .i64 0), .lit (.int .i64 0), .lit (.int .i64 0), .lit (.int .u64 0), .lit (.int .u64 0), .lit (.string [])]]], .agg [.agg [.agg [.lit (.int .i64 0), .lit (.int .i64 0), .lit (.int .i64 0), .lit (.int .u64 0), .lit (.int .u64 0), .lit (.string [])], .agg [.lit (.int .i64 0), .lit (.int .i64 0), .lit (.int .i64 0), .lit (.int .u64 0), .lit (.int .u64 0), .lit (.string [])]], .agg [.agg [.lit (.int .i64 0), .lit (.int .i64 0), .lit (.int .i64 0), .lit (.int .u64 0), .lit (.int .u64 0), .lit (.string [])], .agg [.lit (.int .i64 0), .lit (.int .i64 0), .lit (.int .i64 0), .lit (.int .u64 0), .lit (.int .u64 0), .lit (.string [])]], .agg [.agg [.lit (.int .i64 0), .lit (.int .i64 0), .lit (.int .i64 0), .lit (.int .u64 0), .lit (.int .u64 0), .lit (.string [])], .agg [.lit (.int .i64 0), .lit (.int .i64 0), .lit (.int .i64 0), .lit (.int .u64 0), .lit (.int .u64 0), .lit (.string [])]]], .lit (.int .u32 0), .lit (.int .u32 0), .agg [.agg [.agg [.lit (.int .i64 0), .lit (.int .i64 0), .lit (.int .i64 0), .lit (.int .u64 0), .lit (.int .u64 0), .lit (.string [])], .agg [.lit (.int .i64 0), .lit (.int .i64 0), .lit (.int .i64 0), .lit (.int .u64 0), .lit (.int .u64 0), .lit (.string [])]], .agg [.agg [.lit (.int .i64 0), .lit (.int .i64 0), .lit (.int .i64 0), .lit (.int .u64 0), .lit (.int .u64 0), .lit (.string [])], .agg [.lit (.int .i64 0), .lit (.int .i64 0), .lit (.int .i64 0), .lit (.int .u64 0), .lit (.int .u64 0), .lit (.string [])]], .agg [.agg [.lit (.int .i64 0), .lit (.int .i64 0), .lit (.int .i64 0), .lit (.int .u64 0), .lit (.int .u64 0), .lit (.string [])], .agg [.lit (.int .i64 0), .lit (.int .i64 0), .lit (.int .i64 0), .lit (.int .u64 0), .lit (.int .u64 0), .lit (.string [])]]]], .agg [.lit (.int .u32 0), .lit (.int .u32 0), .lit (.int .u32 0), .lit (.int .u32 0), .lit (.int .u32 0), .lit (.int .u32 0), .lit (.int .u32 0), .lit (.int .u32 0)]], [], places) :=
  ⟨[], by kernel_rfl⟩

set_option maxRecDepth 100000 in
theorem lifted (os : Os) (started : os.Started) (H : Type) (enc : TypeId × Value → H) (F : Stop.Interp) :
    ReturnsInHanded {} Tryd.checked os 8 .any ((OpenSpec.ofChange Rows.packetFieldsSpec).preRow enc Tryd.prog Tryd.f8 Rows.packetFieldsRow.domain false Rows.packetFieldsRow.laid) (((OpenSpec.ofChange Rows.packetFieldsSpec).at F).post enc Tryd.prog Tryd.f8 false true false false) := by
  obtain ⟨places, hx⟩ := reads os enc
  refine returnsInHanded_of_row (C := Tryd.checked) (s := OpenSpec.ofChange Rows.packetFieldsSpec) Tryd.own started (by kernel_rfl) Tryd.func8
    (witness_row_at (enc := enc) (C := Tryd.checked) false (laidWorld os) wit rfl (by kernel_rfl) (by kernel_rfl) (by kernel_rfl)
      (OpenSpec.preRow_of_cond 8 hx (by kernel_rfl) (fun k hk => by cases hk) (by kernel_rfl) (laid_met os))) ?_
  intro W base args ds gs before hval hW _ _ hreach _ _ _
  exact contract H enc W args ds gs before base hval hW hreach

theorem said : Rows.PacketFieldsSaid :=
  OpenClaim.holds_of_cond 8 Tryd.f8 rfl rfl rfl rfl rfl rfl rfl ⟨rfl, rfl, rfl, rfl, rfl⟩ rfl rfl rfl rfl rfl (by kernel_rfl) Tryd.func8 (by kernel_rfl)
    (of_decide_eq_true (by kernel_rfl)) (by unfold Func.isWrapper; first | (rw [if_pos (by decide +kernel)]; kernel_rfl) | (rw [if_neg (by decide +kernel)]; exact ⟨rfl, rfl⟩))
    (fun os started H enc _ F => by rw [OpenClaim.pre_eq_preRow]; exact lifted os started H enc F)

theorem plain (f : FuncId) (fn : Func) (hf : Tryd.pinned.checked.prog.funcNamed "congress/congresslaw05.PacketFields" = some f) (hfn : Tryd.pinned.checked.prog.funcs[f]? = some fn) :
    false = Tryd.pinned.checked.prog.looks [] ∧ ∀ (j : Nat) t, fn.params[j]? = some t → Tryd.pinned.checked.prog.wantsStandIn t = false := by
  obtain rfl : f = 8 := Option.some.inj ((show Tryd.prog.funcNamed "congress/congresslaw05.PacketFields" = some 8 by kernel_rfl).symm.trans hf) |>.symm
  obtain rfl : fn = Tryd.f8 := (Option.some.inj (Tryd.func8.symm.trans hfn)).symm
  refine ⟨by kernel_rfl, fun j t ht => ?_⟩
  rw [Tryd.params8] at ht
  have hm := Array.mem_of_getElem? ht
  simp only [List.mem_toArray, List.mem_cons, List.mem_nil_iff, or_false] at hm
  rcases hm with rfl | rfl
  · exact (show Tryd.prog.wantsStandIn 35 = false by kernel_rfl)
  · exact (show Tryd.prog.wantsStandIn 27 = false by kernel_rfl)

/-- The card. -/
theorem card : Rows.PacketFieldsCardSaid :=
  Claim7.holds_tied_plain_at .later [] _ _ _ _ said (fun _ h => by cases h) (by kernel_rfl) (fun _ h => by cases h) packetFields_row_tie rfl ⟨rfl, rfl⟩ (by kernel_rfl) rfl plain (by kernel_rfl)

end Go.Proofs.YthapghhmeicbnaaDoor.packetFields

theorem Go.Proofs.YthapghhmeicbnaaDoor.PacketFields_holds : Go.Proofs.YthapghhmeicbnaaDoor.Rows.PacketFieldsCardSaid := Go.Proofs.YthapghhmeicbnaaDoor.packetFields.card
