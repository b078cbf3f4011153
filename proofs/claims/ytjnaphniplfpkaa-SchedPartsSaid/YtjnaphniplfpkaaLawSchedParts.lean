/- SchedParts: to fill some slots, and then some more, is to fill all at once, for every input. -/
import Derived.Test.YtjnaphniplfpkaaRows
import Derived.Test.YtjnaphniplfpkaaEL
import Derived.Test.YtjnaphniplfpkaaZu
import Derived.Test.YtjnaphniplfpkaaSA
import Derived.WalkKit
import Derived.ProofKit
import Derived.OpenShut
import Derived.ChangeOld
import Derived.Below
import Derived.SizedLaws
set_option linter.unusedVariables false
namespace Go.Proofs.Ytjnaphniplfpkaa.schedParts
open Go.ChangeShapes Go.WideShapes Go.ChangeAt Go.RowKit
set_option maxRecDepth 20000
theorem params_ok : ∀ t ∈ Try.f6.params.toList, Try.prog.readableRec t = true ∧ t < Try.prog.types.size := by
  rw [Try.params6]
  intro t ht
  simp only [List.mem_cons, List.mem_nil_iff, or_false] at ht
  rcases ht with rfl | rfl | rfl
  · exact ⟨by kernel_rfl, of_decide_eq_true (by kernel_rfl)⟩
  · exact ⟨by kernel_rfl, of_decide_eq_true (by kernel_rfl)⟩
  · exact ⟨by kernel_rfl, of_decide_eq_true (by kernel_rfl)⟩
set_option maxRecDepth 100000 in
theorem lifted (os : Os) (started : os.Started) (H : Type) (enc : TypeId × Value → H) :
    ReturnsInHanded {} Try.checked os 6 .any (Rows.schedPartsSpec.pre6 enc Try.prog Try.f6 Rows.schedPartsRow.domain false) (Rows.schedPartsSpec.post enc Try.prog Try.f6 false true false false) := by
  refine returnsInHanded_of_change_sized (C := Try.checked) Try.own started (by kernel_rfl) Try.func6
    (ChangeSpec.witness6 (enc := enc) (C := Try.checked) false ⟨#[], #[.slice none 0 0, .int .u64 0, .agg #[.int .i64 0, .int .i64 0]], []⟩ 8 (by kernel_rfl) (by kernel_rfl) (by kernel_rfl) (by kernel_rfl)) ?_
  intro W base args ds gs before hval0 hW hcnd hsz0 _
  have hval : ∀ (j : Nat) t v, Try.f6.params[j]? = some t → args[j]? = some v → Value.okWide Try.prog W .any base t v := hval0
  have hsz : (DataW.weightsEach Try.prog (Try.f6.params.toList ++ Rows.schedPartsSpec.plain.varTypes Try.prog) (ds ++ gs)).all (· ≤ reachBytes) = true := hsz0
  have hW' := hW
  obtain ⟨p, q, hA0, hV, rfl, hfz, hnd⟩ := hW
  have hA : DataW.TrodAll enc Try.prog W 0 (fun _ => true) true Try.f6.params.toList args.toList ds p := hA0
  rw [Try.params6] at hA hval hsz
  obtain ⟨v0, vs0, d0, ds0, p0, q0, hargs, rfl, rfl, h0, r0⟩ := trodAll_cons hA
  obtain ⟨v1, vs1, d1, ds1, p1, q1, rfl, rfl, rfl, h1, r1⟩ := trodAll_cons r0
  obtain ⟨v2, vs2, d2, ds2, p2, q2, rfl, rfl, rfl, h2, r2⟩ := trodAll_cons r1
  obtain ⟨rfl, rfl, rfl⟩ := trodAll_nil r2
  obtain rfl : args = #[v0, v1, v2] := by cases args; simp_all
  obtain ⟨rfl, rfl⟩ := trodVars_none hV
  obtain ⟨x0, w0⟩ := open_sh (n := 19) (.sl S36) (by kernel_rfl) rfl (hval 0 22 v0 rfl rfl) h0
  obtain ⟨x1, w1⟩ := open_sh (n := 19) (.int .u64) (by kernel_rfl) rfl (hval 1 23 v1 rfl rfl) h1
  obtain ⟨x2, w2⟩ := open_sh (n := 19) (.arr 2 (.int .i64)) (by kernel_rfl) rfl (hval 2 38 v2 rfl rfl) h2
  have z0 := sized_sl (j := 0) (t := 22) hsz rfl rfl Try.underlying22 (by kernel_rfl : Try.prog.bytesOf 36 = 56) h0 w0
  refine (law_walk (W_congresslaw19_SchedParts (partsHolds x0 (relV_ok w0) z0 x1 (relV_ok w1) x2 (relV_ok w2))) (us := [v0, v1, v2]) ⟨v0, _, rfl, w0, ⟨v1, _, rfl, w1, ⟨v2, _, rfl, w2, rfl⟩⟩⟩).mono fun e W' ⟨he, hb⟩ => ⟨_, he, ?_⟩
  exact law_post Try.laidOut params_ok rfl Try.underlying4 rfl hW' rfl rfl rfl hb

theorem over : Rows.schedPartsRow.holds Try.pinned (OpenSpec.ofChange Rows.schedPartsSpec) :=
  OpenClaim.holds_of_wide 6 Try.f6 rfl rfl rfl rfl rfl rfl rfl ⟨rfl, rfl, rfl, rfl, rfl⟩ rfl rfl rfl rfl rfl (by kernel_rfl) Try.func6 (by kernel_rfl)
    (of_decide_eq_true (by kernel_rfl)) (by unfold Func.isWrapper; first | (rw [if_pos (by decide +kernel)]; kernel_rfl) | (rw [if_neg (by decide +kernel)]; exact ⟨rfl, rfl⟩))
    (fun os started H enc _ => lifted os started H enc)
theorem proved : Rows.SchedPartsSaid := over
end Go.Proofs.Ytjnaphniplfpkaa.schedParts
theorem Go.Proofs.Ytjnaphniplfpkaa.SchedParts_holds : Go.Proofs.Ytjnaphniplfpkaa.Rows.SchedPartsSaid := Go.Proofs.Ytjnaphniplfpkaa.schedParts.proved
