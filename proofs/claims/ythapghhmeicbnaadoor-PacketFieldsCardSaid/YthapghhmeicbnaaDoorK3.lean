/- The machine's side, told once: regions that draw their order and only read, or call what only computes. -/
import Derived.Test.YthapghhmeicbnaaDoorK2
import Derived.Deep.Quiet
set_option linter.unusedVariables false
set_option linter.unusedSimpArgs false
namespace Go.Proofs.YthapghhmeicbnaaDoor
open Go.RowKit

/-- Is the operation that is next wanted? -/
def gd (ops : Array Oper) (i : Nat) (ρ : Env) : Option Bool :=
  match ops[i]? with
  | some ⟨_, _, _, _, _, none⟩ => some true
  | some ⟨_, _, _, _, _, some (j, want)⟩ => match ops[j]? with
    | some ⟨some dj, _, _, _, _, _⟩ => match look ρ dj with
      | some (.bool b) => some (b == want)
      | some (.tuple _) => some false
      | _ => none
    | _ => none
  | none => none

/-- The operation that is next: where its value goes, and what it does. -/
def stepG (n : Nat) (ops : Array Oper) (i : Nat) (ρ : Env) : Option (Option Tmp × Sem Next) :=
  match gd ops i ρ with
  | some true => match ops[i]? with
    | some ⟨dst, op, ty, _, _, _⟩ => match semOf ρ ty op with
      | some s => match dst with
        | some d => if Nat.blt d n then some (some d, s) else none
        | none => some (none, s)
      | none => none
    | none => none
  | _ => none

def skipG (n : Nat) (ops : Array Oper) (i : Nat) (ρ : Env) : Option (Option Tmp) :=
  match gd ops i ρ with
  | some false => match ops[i]? with
    | some ⟨dst, _, _, _, _, _⟩ => match dst with
        | some d => if Nat.blt d n then some (some d) else none
        | none => some none
    | none => none
  | _ => none

section
variable {P : Program} {fn : Func} {w0 : World} {k : List KI} {ρ : Env} {H : Hp} {R : Value → Hp → Prop} {ops : Array Oper} {i : Nat} {todo : List Nat} {dst : Option Tmp} {d : Tmp}

theorem gd_ok {a : Act} (h1 : EnvOk ρ a.tmps) {b : Bool} (h : gd ops i ρ = some b) : ∃ o, ops[i]? = some o ∧ Region.wanted o (yielded ops a.tmps) = b := by
  unfold gd at h
  split at h
  · rename_i ho
    simp only [Option.some.injEq] at h
    subst h
    exact ⟨_, ho, rfl⟩
  · rename_i dst op ty pos after j want ho
    split at h
    · rename_i dj _ _ _ _ _ hj
      split at h
      · rename_i c hl
        simp only [Option.some.injEq] at h
        subst h
        refine ⟨_, ho, ?_⟩
        have := h1 dj _ hl
        simp [Region.wanted, yielded, hj, this]
      · rename_i c hl
        simp only [Option.some.injEq] at h
        subst h
        refine ⟨_, ho, ?_⟩
        have := h1 dj _ hl
        simp [Region.wanted, yielded, hj, this]
      · cases h
    · cases h
  · cases h

theorem stepG_ok {s : Sem Next} (h : stepG fn.ntmps ops i ρ = some (dst, s)) {a : Act} (h1 : EnvOk ρ a.tmps) :
    ∃ o, ops[i]? = some o ∧ Region.wanted o (yielded ops a.tmps) = true ∧ o.dst = dst ∧ (∀ d, dst = some d → d < fn.ntmps) ∧ execOp a.eval o = s := by
  unfold stepG at h
  cases hg : gd ops i ρ with
  | none => simp [hg] at h
  | some b =>
    cases b with
    | false => simp [hg] at h
    | true =>
      obtain ⟨o, ho, hw⟩ := gd_ok h1 hg
      simp only [hg, ho] at h
      obtain ⟨dst', op, ty, pos, after, guard⟩ := o
      simp only at h
      cases hs : semOf ρ ty op with
      | none => simp [hs] at h
      | some s' =>
        simp only [hs] at h
        cases dst' with
        | none =>
          simp only [Option.some.injEq, Prod.mk.injEq] at h
          obtain ⟨rfl, rfl⟩ := h
          exact ⟨_, ho, hw, rfl, by simp, semOf_ok (o := ⟨none, op, ty, pos, after, guard⟩) h1 hs⟩
        | some d =>
          simp only at h
          by_cases hb : Nat.blt d fn.ntmps = true
          · rw [if_pos hb] at h
            simp only [Option.some.injEq, Prod.mk.injEq] at h
            obtain ⟨rfl, rfl⟩ := h
            exact ⟨_, ho, hw, rfl, fun e he => by obtain rfl := Option.some.inj he; simpa [Nat.blt_eq] using hb, semOf_ok (o := ⟨some d, op, ty, pos, after, guard⟩) h1 hs⟩
          · rw [if_neg hb] at h; cases h

theorem skipG_ok (h : skipG fn.ntmps ops i ρ = some dst) {a : Act} (h1 : EnvOk ρ a.tmps) :
    ∃ o, ops[i]? = some o ∧ Region.wanted o (yielded ops a.tmps) = false ∧ o.dst = dst ∧ (∀ d, dst = some d → d < fn.ntmps) := by
  unfold skipG at h
  cases hg : gd ops i ρ with
  | none => simp [hg] at h
  | some b =>
    cases b with
    | true => simp [hg] at h
    | false =>
      obtain ⟨o, ho, hw⟩ := gd_ok h1 hg
      simp only [hg, ho] at h
      obtain ⟨dst', op, ty, pos, after, guard⟩ := o
      cases dst' with
      | none =>
        simp only [Option.some.injEq] at h
        subst h
        exact ⟨_, ho, hw, rfl, by simp⟩
      | some d =>
        simp only at h
        by_cases hb : Nat.blt d fn.ntmps = true
        · rw [if_pos hb] at h
          simp only [Option.some.injEq] at h
          subst h
          exact ⟨_, ho, hw, rfl, fun e he => by obtain rfl := Option.some.inj he; simpa [Nat.blt_eq] using hb⟩
        · rw [if_neg hb] at h; cases h

/-- An operation that is not wanted, in a region in its order. -/
theorem run_skipped (h : skipG fn.ntmps ops i ρ = some dst) (hk : Run P fn w0 (.ops ops todo :: k) (bind dst undef ρ) H R) : Run P fn w0 (.ops ops (i :: todo) :: k) ρ H R := by
  intro a w h1 h2 h3 h4
  obtain ⟨o, ho, hw, hd, hlt⟩ := skipG_ok h h1
  show wpOps P ops _ (i :: todo) a w
  simp only [wpOps, ho, hw, Bool.false_eq_true, if_false, hd]
  exact hk _ _ (h1.bind dst _ (by rw [h2]; exact hlt)) (by rw [put_size]; exact h2) (by rw [put_defers]; exact h3) h4

/-- A wanted one. -/
theorem run_wanted {s : Sem Next} (h : stepG fn.ntmps ops i ρ = some (dst, s))
    (hr : ∀ w, Sat w0 H w → ∃ v w' H', s.run P w = .ok (.value v) w' ∧ Sat w0 H' w' ∧ Run P fn w0 (.ops ops todo :: k) (bind dst v ρ) H' R) : Run P fn w0 (.ops ops (i :: todo) :: k) ρ H R := by
  intro a w h1 h2 h3 h4
  obtain ⟨o, ho, hw, hd, hlt, he⟩ := stepG_ok h h1
  obtain ⟨v, w', H', hs, h4', hrun⟩ := hr w h4
  show wpOps P ops _ (i :: todo) a w
  simp only [wpOps, ho, hw, if_true]
  left
  simp only [Oper.wp, he, hs, Oper.upon_value, hd]
  exact hrun _ _ (h1.bind dst v (by rw [h2]; exact hlt)) (by rw [put_size]; exact h2) (by rw [put_defers]; exact h3) h4'

/-! ### A region that draws, in the order of the text -/

def RunQ (P : Program) (fn : Func) (w0 : World) (ops : Array Oper) (l : List Nat) (k : List KI) (ρ : Env) (H : Hp) (R : Value → Hp → Prop) : Prop :=
  ∀ a, EnvOk ρ a.tmps → a.tmps.size = fn.ntmps → a.defers = [] →
    wpQuiet P ops (Sat w0 H) (fun a' => ∀ w', Sat w0 H w' → kwp P (fin P fn w0 R) k .normal a' w') (l.filterMap fun i => ops[i]?) a

theorem filterMap_range {α : Type} (l : List α) : (List.range l.length).filterMap (fun i => l[i]?) = l := by
  apply List.ext_getElem?
  intro j
  induction l generalizing j with
  | nil => rfl
  | cons x l ih =>
    rw [List.length_cons, List.range_succ_eq_map, List.filterMap_cons]
    simp only [List.getElem?_cons_zero]
    cases j with
    | zero => rfl
    | succ j =>
      rw [List.getElem?_cons_succ, List.getElem?_cons_succ, List.filterMap_map]
      exact ih j

theorem run_draw {c : Code} {l : List Nat} (hc : Code.kind c = .region ops true) (hl : List.range ops.size = l) (hm : P.follows .mixedOrders = true) (hB : Region.lexB .any ops = true) (h : RunQ P fn w0 ops l k ρ H R) : Run P fn w0 (.code c :: k) ρ H R := by
  cases c <;> simp [Code.kind] at hc
  obtain ⟨rfl, rfl⟩ := hc
  subst hl
  intro a w h1 h2 h3 h4
  refine wp_region_quiet (C := Sat w0 H) hm hB (h4.draws 1) ?_
  have := h a h1 h2 h3
  have e : ∀ ops : Array Oper, (List.range ops.size).filterMap (fun i => ops[i]?) = ops.toList := fun ops => by
    have := filterMap_range ops.toList
    rw [Array.length_toList] at this
    simpa using this
  rw [e] at this
  exact this

theorem q_end (h : Run P fn w0 k ρ H R) : RunQ P fn w0 ops [] k ρ H R :=
  fun a h1 h2 h3 w' h4 => h a w' h1 h2 h3 h4

theorem q_val {s : Sem Value} {v : Value} {l : List Nat} (h : stepG fn.ntmps ops i ρ = some (some d, vN s)) (hr : Rdo P w0 H s v) (hk : RunQ P fn w0 ops l k ((d, v) :: ρ) H R) : RunQ P fn w0 ops (i :: l) k ρ H R := by
  intro a h1 h2 h3
  obtain ⟨o, ho, hw, hd, hlt, he⟩ := stepG_ok h h1
  rw [List.filterMap_cons, ho]
  simp only [wpQuiet, hw, if_true]
  refine ⟨v, fun w hw => ?_, ?_⟩
  · simp only [Oper.quietAt, he, vN_run (hr w hw), Oper.quietUpon, and_self]
  · rw [hd]
    exact hk _ (h1.put d v (by rw [h2]; exact hlt d rfl)) (by rw [put_size]; exact h2) (by rw [put_defers]; exact h3)

theorem q_mv {v : Value} {l : List Nat} (h : stepG fn.ntmps ops i ρ = some (some d, pure (.value v))) (hk : RunQ P fn w0 ops l k ((d, v) :: ρ) H R) : RunQ P fn w0 ops (i :: l) k ρ H R := by
  intro a h1 h2 h3
  obtain ⟨o, ho, hw, hd, hlt, he⟩ := stepG_ok h h1
  rw [List.filterMap_cons, ho]
  simp only [wpQuiet, hw, if_true]
  refine ⟨v, fun w hw => ?_, ?_⟩
  · simp only [Oper.quietAt, he]
    exact ⟨rfl, rfl⟩
  · rw [hd]
    exact hk _ (h1.put d v (by rw [h2]; exact hlt d rfl)) (by rw [put_size]; exact h2) (by rw [put_defers]; exact h3)

theorem q_pick {c : Bool} {x y v : Value} {l : List Nat} (h : stepG fn.ntmps ops i ρ = some (some d, (do pure (.value (if ← asBool (.bool c) then x else y))))) (hv : (if c then x else y) = v) (hk : RunQ P fn w0 ops l k ((d, v) :: ρ) H R) : RunQ P fn w0 ops (i :: l) k ρ H R := by
  subst hv
  refine q_mv (v := if c then x else y) ?_ hk
  rw [h]
  rfl

theorem q_skip {l : List Nat} (h : skipG fn.ntmps ops i ρ = some (some d)) (hk : RunQ P fn w0 ops l k ((d, undef) :: ρ) H R) : RunQ P fn w0 ops (i :: l) k ρ H R := by
  intro a h1 h2 h3
  obtain ⟨o, ho, hw, hd, hlt⟩ := skipG_ok h h1
  rw [List.filterMap_cons, ho]
  simp only [wpQuiet, hw, Bool.false_eq_true, if_false, hd]
  exact hk _ (h1.put d _ (by rw [h2]; exact hlt d rfl)) (by rw [put_size]; exact h2) (by rw [put_defers]; exact h3)

theorem q_pf0 {f : FuncId} {l : List Value} {v : Value} {L : List Nat} (h : stepG fn.ntmps ops i ρ = some (some d, callN (.func (.func f) #[] #[]) l))
    (hb : ∀ args w, (callFunc f args).run P w = .ok (.enter f args) w) (hc : Pf P f l.toArray v) (hk : RunQ P fn w0 ops L k ((d, v) :: ρ) H R) : RunQ P fn w0 ops (i :: L) k ρ H R := by
  intro a h1 h2 h3
  obtain ⟨o, ho, hw, hd, hlt, he⟩ := stepG_ok h h1
  rw [List.filterMap_cons, ho]
  simp only [wpQuiet, hw, if_true]
  refine ⟨v, fun w hw => ?_, ?_⟩
  · simp only [Oper.quietAt, he, callN_run (hb _ w), Oper.quietUpon, true_and]
    rw [Array.append_empty]
    refine (hc w).mono ?_
    rintro e w' ⟨u, hh, rfl, hs, rfl⟩
    exact ⟨rfl, (hw.grow hs).drop⟩
  · rw [hd]
    exact hk _ (h1.put d v (by rw [h2]; exact hlt d rfl)) (by rw [put_size]; exact h2) (by rw [put_defers]; exact h3)

theorem q_pf {f : FuncId} {l : List Value} {cap : Array Value} {v : Value} {L : List Nat} (h : stepG fn.ntmps ops i ρ = some (some d, callN (.func (.func f) #[] cap) l))
    (hb : ∀ args w, (callFunc f args).run P w = .ok (.enter f args) w) (hc : Pf P f (l.toArray ++ cap) v) (hk : RunQ P fn w0 ops L k ((d, v) :: ρ) H R) : RunQ P fn w0 ops (i :: L) k ρ H R := by
  intro a h1 h2 h3
  obtain ⟨o, ho, hw, hd, hlt, he⟩ := stepG_ok h h1
  rw [List.filterMap_cons, ho]
  simp only [wpQuiet, hw, if_true]
  refine ⟨v, fun w hw => ?_, ?_⟩
  · simp only [Oper.quietAt, he, callN_run (hb _ w), Oper.quietUpon, true_and]
    refine (hc w).mono ?_
    rintro e w' ⟨u, hh, rfl, hs, rfl⟩
    exact ⟨rfl, (hw.grow hs).drop⟩
  · rw [hd]
    exact hk _ (h1.put d v (by rw [h2]; exact hlt d rfl)) (by rw [put_size]; exact h2) (by rw [put_defers]; exact h3)

end
end Go.Proofs.YthapghhmeicbnaaDoor
