/- Small laws: a slice is held against nil. -/
import Derived.Test.YtlhbekiplnmolaaDoorEG
import Derived.Laws.Cover3
set_option linter.unusedVariables false
set_option linter.unusedSimpArgs false
namespace Go.Proofs.YtlhbekiplnmolaaDoor
open Go.RowKit

section
variable {P : Program} {fn : Func} {n0 : Nat} {b : Base n0} {R : Exit → Act → World → Prop} {k : List KI} {ρ : AEnv} {H : AStore}

theorem nil_eq {T e : TypeId} {x : Operand} {M : Fz} {φ : Nat → Value} {s : Sh} {xs : List s.ty} {u : Value} (hT : slB P T = some e) (h0 : 0 < s.size) (hu : RelV P M φ (.v (.sl s) xs) u) (w : World) : ∃ z : Bool, (eqN .eql T x (.const (.slice none 0 0)) u (.slice none 0 0)).run P w = .ok (.bool z) w ∧ (z = true → xs = []) := by
  obtain ⟨hf, cs, rfl, A, n, cap, vs, rfl, rfl, h3, h4, h5⟩ := hu
  have hf' : s.fixed = true := by simp only [Sh.fixed, Bool.and_eq_true] at hf; exact hf.1
  have hl := RepL_len (fun c y hc => rep_len hf' hc) h5
  have key : (eqN .eql T x (.const (.slice none 0 0)) (.slice A xs.length cap) (.slice none 0 0)).run P w = .ok (.bool A.isNone) w := by
    show (do eqGuard .eql T x (.const (.slice none 0 0)) (.slice A xs.length cap) (.slice none 0 0); Value.bool <$> Op.equal T (.slice A xs.length cap) (.slice none 0 0) : Sem Value).run P w = _
    have e1 : (eqGuard .eql T x (.const (.slice none 0 0)) (.slice A xs.length cap) (.slice none 0 0)).run P w = .ok () w := rfl
    simp [e1, run_equal_slice_nil w T e A xs.length cap (slB_ok hT)]
  refine ⟨A.isNone, key, fun hz => ?_⟩
  cases A with
  | none =>
    cases xs with
    | nil => rfl
    | cons y ys =>
      have hp : 0 < vs.length := by rw [hl]; exact Nat.mul_pos (by simp) h0
      obtain ⟨_, _, _, h, _⟩ := h4 0 hp
      cases h
  | some a => cases hz

theorem run_nilreg {c : Code} {ops : Array Oper} {ρ1 : AEnv} {H1 : AStore} {C : List Prop} {d n : Nat} {T T' ty e : TypeId} {x : Operand} {s : Sh} {xs : List s.ty} {pos after} (orc : List (Nat × Orc)) (dec : List (Nat × Bool)) (L0 : Nat) (hc : Code.kind c = .region ops false)
    (hn : ops.size = n + 1) (ho : ops[n]? = some ⟨some d, .binOp .eql T x (.const (.slice none 0 0)) T', ty, pos, after, none⟩)
    (h : evOps P n0 fn.ntmps orc dec L0 ops (List.range n) ρ H = some (ρ1, H1, C)) (hC : AllP C)
    (hx : evA P ρ1 T x = some (.v (.sl s) xs)) (hT : slB P T = some e) (h0 : Nat.blt 0 s.size = true) (hd : Nat.blt d fn.ntmps = true)
    (ht : xs = [] → Run P fn b R k ((d, vb true) :: ρ1) H1) (hf : Run P fn b R k ((d, vb false) :: ρ1) H1) : Run P fn b R (.code c :: k) ρ H := by
  cases c <;> simp [Code.kind] at hc
  obtain ⟨rfl, rfl⟩ := hc
  rename_i ops
  rw [Nat.blt_eq] at hd h0
  have last : Run P fn b R (.ops ops [n] :: k) ρ1 H1 := by
    intro a w h1 h2 h3
    show wpOps P ops _ [n] a w
    obtain ⟨M, φ, ξ, g1, g2⟩ := h1
    have hw := gdE_ok (z := true) g2 (o := ⟨some d, .binOp .eql T x (.const (.slice none 0 0)) T', ty, pos, after, none⟩) (ops := ops) (by simp [gdE])
    simp only [wpOps, ho, hw]
    simp only [if_true]
    left
    unfold Oper.wp
    obtain ⟨z, hz, hzx⟩ := nil_eq (x := x) hT h0 (evA_ok g2 hx) w
    have hr : (execOp a.eval ⟨some d, .binOp .eql T x (.const (.slice none 0 0)) T', ty, pos, after, none⟩).run P w = .ok (.value (.bool z)) w := by
      have e1 : a.eval (.const (.slice none 0 0)) = .slice none 0 0 := rfl
      show (vN (eqN .eql T x (.const (.slice none 0 0)) (a.eval x) (a.eval (.const (.slice none 0 0))))).run P w = _
      rw [e1]
      simp [vN, hz]
    rw [hr]
    simp only [Oper.upon_value]
    have hr2 : St P b ((d, vb z) :: ρ1) H1 (a.put d (.bool z)).tmps w := ⟨M, φ, ξ, g1, g2.put d _ _ (by rw [h2]; exact hd) ⟨rfl, _, rfl, rfl⟩⟩
    cases z with
    | true => exact ht (hzx rfl) _ w hr2 (by rw [put_size]; exact h2) h3
    | false => exact hf _ w hr2 (by rw [put_size]; exact h2) h3
  have key := run_opsA (k := k) h hC last
  have e0 : List.range n ++ [n] = List.range ops.size := by rw [hn]; exact List.range_succ.symm
  rw [e0] at key
  exact fun a w g1 g2 g3 => wp_region (key a w g1 g2 g3)
end
end Go.Proofs.YtlhbekiplnmolaaDoor
