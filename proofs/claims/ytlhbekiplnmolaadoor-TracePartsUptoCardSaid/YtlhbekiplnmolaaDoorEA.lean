/- The machine's side, told once: one operation that only reads. -/
import Derived.Test.YtlhbekiplnmolaaDoorE9m
set_option linter.unusedVariables false
set_option linter.unusedSimpArgs false
namespace Go.Proofs.YtlhbekiplnmolaaDoor
open Go.RowKit

def pv (P : Program) (ρ : AEnv) (H : AStore) (ty : TypeId) : Op → PR
  | .move x => match evA P ρ ty x with | some α => some (α, []) | none => none
  | .assign x => match evA P ρ ty x with | some α => some (α, []) | none => none
  | .pick c x y => match evA P ρ 0 c with
    | some (.v .bool z) => match z with
      | true => match evA P ρ ty x with | some α => some (α, []) | none => none
      | false => match evA P ρ ty y with | some α => some (α, []) | none => none
    | _ => none
  | .load T x => match evA P ρ 0 x with | some α => ldA P H T α | none => none
  | .field T x f => match evA P ρ T x with | some α => fdA P T f α | none => none
  | .fieldAddr T x f => match evA P ρ 0 x with | some α => faA P T f α | none => none
  | .indexAddr T x i => match evA P ρ 0 x, evA P ρ 0 i with | some α, some γ => iaA P H T α γ | _, _ => none
  | .index T x i => match evA P ρ T x, evA P ρ 0 i with | some α, some γ => ixA P T α γ | _, _ => none
  | .binOp op t x y _ => match evA P ρ t x, evA P ρ t y with | some α, some γ => boA P op t α γ | _, _ => none
  | .unOp op t x => match evA P ρ t x with | some α => uoA op α | none => none
  | .convert s t x => match evA P ρ s x with | some α => cvA P s t α | none => none
  | .extract x i => match evA P ρ 0 x with
    | some (.tup l) => match l[i]? with | some α => some (α, []) | none => none
    | _ => none
  | .lookup T x i ck => match evA P ρ 0 x, evA P ρ 0 i with | some α, some κ => lkA P H T ck α κ | _, _ => none
  | .nilCheck x => match evA P ρ 0 x with | some α => if okNil α then some (α, []) else none | none => none
  | .makeFunc (.func f) first cap => match first.toList, evL P ρ (cap.toList.map fun x => (0, x)) with
    | [], some l => some (.clo f l, [])
    | _, _ => none
  | .build T ps => match evPs P ρ (fieldT P T) ps.toList with
    | some l => match bldT P T l with
      | some r => if r.1.agg then some (.v r.1 r.2, []) else none
      | none => none
    | none => none
  | .slice T x lo hi none => match evA P ρ T x, evO P ρ lo, evO P ρ hi with | some α, some o1, some o2 => slR P H T α o1 o2 | _, _, _ => none
  | .slice T x lo (some hi) (some mx) => match evA P ρ T x, evO P ρ lo, evA P ρ 0 hi, evA P ρ 0 mx with | some α, some o1, some o2, some o3 => slF P H T α o1 o2 o3 | _, _, _, _ => none
  | .call ⟨.builtin bi, xs, ts⟩ => match evL P ρ (ts.toList.zip xs.toList) with
    | some l => if Nat.beq ts.size xs.size then biA P H ts.toList bi l else none
    | none => none
  | _ => none

section
variable {P : Program} {n0 : Nat} {b : Base n0} {M : Fz} {φ : Nat → Value} {ξ : Nat → Option Nat} {H : AStore} {w : World} {ρ : AEnv}

theorem evO_ok {a : Act} (he : EnvR P M φ ρ a.tmps) {x : Option Operand} {o : Option AVal} (h : evO P ρ x = some o) : RelO P M φ o (x.map a.eval) := by
  cases x with
  | none => simp only [evO, Option.some.injEq] at h; subst h; trivial
  | some x =>
    simp only [evO] at h
    split at h
    · rename_i α hα
      simp only [Option.some.injEq] at h; subst h
      exact evA_ok he hα
    · cases h
theorem evL_ok {a : Act} (he : EnvR P M φ ρ a.tmps) : ∀ {l : List (TypeId × Operand)} {r : List AVal}, evL P ρ l = some r → RelVs P M φ r (l.map fun x => a.eval x.2)
  | [], r, h => by simp only [evL, Option.some.injEq] at h; subst h; rfl
  | (t, x) :: l, r, h => by
    simp only [evL] at h
    split at h
    · rename_i α r' h1 h2
      simp only [Option.some.injEq] at h; subst h
      exact ⟨_, _, rfl, evA_ok he h1, evL_ok he h2⟩
    · cases h
theorem evPs_ok {a : Act} (he : EnvR P M φ ρ a.tmps) {ft : Nat → TypeId} : ∀ {l : List (Nat × Operand)} {r : List (Nat × AVal)}, evPs P ρ ft l = some r → r.length = l.length ∧ ∀ (q : Nat) (α : Nat × AVal), r[q]? = some α → ∃ u, (l.map fun x => (x.1, a.eval x.2))[q]? = some (α.1, u) ∧ RelV P M φ α.2 u
  | [], r, h => by simp only [evPs, Option.some.injEq] at h; subst h; exact ⟨rfl, fun q α hq => by simp at hq⟩
  | (i, x) :: l, r, h => by
    simp only [evPs] at h
    split at h
    · rename_i α r' h1 h2
      simp only [Option.some.injEq] at h; subst h
      obtain ⟨k1, k2⟩ := evPs_ok he h2
      refine ⟨by simp [k1], fun q β hq => ?_⟩
      cases q with
      | zero => simp at hq; subst hq; exact ⟨_, rfl, evA_ok he h1⟩
      | succ q => simpa using k2 q β (by simpa using hq)
    · cases h

theorem relVs_get : ∀ {l : List AVal} {us : List Value} {i : Nat} {α : AVal}, RelVs P M φ l us → l[i]? = some α → ∃ u, us[i]? = some u ∧ RelV P M φ α u
  | [], us, i, α, _, h => by simp at h
  | β :: l, us, i, α, ⟨u, r, e, h1, h2⟩, h => by
    subst e
    cases i with
    | zero => simp at h; subst h; exact ⟨u, rfl, h1⟩
    | succ i => simpa using relVs_get h2 (by simpa using h)
theorem relVs_len : ∀ {l : List AVal} {us : List Value}, RelVs P M φ l us → us.length = l.length
  | [], us, h => by simp only [RelVs] at h; subst h; rfl
  | α :: l, us, ⟨u, r, e, h1, h2⟩ => by subst e; simp [relVs_len h2]

theorem zip_map {α β γ : Type} (f : β → γ) : ∀ (l : List α) (m : List β), l.length = m.length → (l.zip m).map (fun x => f x.2) = m.map f
  | [], [], _ => rfl
  | x :: l, y :: m, h => by simp [zip_map f l m (by simpa using h)]
  | [], y :: m, h => by simp at h
  | x :: l, [], h => by simp at h

theorem pv_ok (hc : Core P b M φ ξ H w) {a : Act} (he : EnvR P M φ ρ a.tmps) {o : Oper} {β : AVal} {C : List Prop} (h : pv P ρ H o.type o.op = some (β, C)) (hC : AllP C) : ∃ v, (execOp a.eval o).run P w = .ok (.value v) w ∧ RelV P M φ β v := by
  obtain ⟨dst, op, ty, pos, after, guard⟩ := o
  change pv P ρ H ty op = some (β, C) at h
  have val : ∀ {s : Sem Value}, execOp a.eval ⟨dst, op, ty, pos, after, guard⟩ = vN s → (∃ r, s.run P w = .ok r w ∧ RelV P M φ β r) → ∃ v, (execOp a.eval ⟨dst, op, ty, pos, after, guard⟩).run P w = .ok (.value v) w ∧ RelV P M φ β v := by
    rintro s e ⟨r, h1, h2⟩
    exact ⟨r, by rw [e]; exact vN_run h1, h2⟩
  cases op with
  | lookup T x i ck =>
    simp only [pv] at h
    split at h
    · rename_i α κ hα hκ
      exact val rfl (lkA_ok hc h (evA_ok he hα) (evA_ok he hκ))
    · cases h
  | move x =>
    simp only [pv] at h
    split at h
    · rename_i α hα
      simp only [Option.some.injEq, Prod.mk.injEq] at h
      obtain ⟨rfl, rfl⟩ := h
      exact ⟨_, rfl, evA_ok he hα⟩
    · cases h
  | assign x =>
    simp only [pv] at h
    split at h
    · rename_i α hα
      simp only [Option.some.injEq, Prod.mk.injEq] at h
      obtain ⟨rfl, rfl⟩ := h
      exact ⟨_, rfl, evA_ok he hα⟩
    · cases h
  | pick c x y =>
    simp only [pv] at h
    split at h
    · rename_i z hz
      have hzc := bool_val (evA_ok he hz)
      split at h
      · split at h
        · rename_i α hα
          simp only [Option.some.injEq, Prod.mk.injEq] at h
          obtain ⟨rfl, rfl⟩ := h
          refine ⟨a.eval x, ?_, evA_ok he hα⟩
          simp [execOp, hzc, asBool]
        · cases h
      · split at h
        · rename_i α hα
          simp only [Option.some.injEq, Prod.mk.injEq] at h
          obtain ⟨rfl, rfl⟩ := h
          refine ⟨a.eval y, ?_, evA_ok he hα⟩
          simp [execOp, hzc, asBool]
        · cases h
    · cases h
  | load T x =>
    simp only [pv] at h
    split at h
    · rename_i α hα
      exact val rfl (ldA_ok hc (evA_ok he hα) h hC)
    · cases h
  | field T x f =>
    simp only [pv] at h
    split at h
    · rename_i α hα
      exact val rfl (fdA_ok (evA_ok he hα) h w)
    · cases h
  | fieldAddr T x f =>
    simp only [pv] at h
    split at h
    · rename_i α hα
      exact val rfl (faA_ok (evA_ok he hα) h w)
    · cases h
  | indexAddr T x i =>
    simp only [pv] at h
    split at h
    · rename_i α γ hα hγ
      exact val rfl (iaA_ok hc (evA_ok he hα) (evA_ok he hγ) h hC)
    · cases h
  | index T x i =>
    simp only [pv] at h
    split at h
    · rename_i α γ hα hγ
      exact val rfl (ixA_ok (evA_ok he hα) (evA_ok he hγ) h hC w)
    · cases h
  | binOp op t x y yt =>
    simp only [pv] at h
    split at h
    · rename_i α γ hα hγ
      exact val (s := eqN op t x y (a.eval x) (a.eval y)) rfl (boA_ok (evA_ok he hα) (evA_ok he hγ) h hC w)
    · cases h
  | unOp op t x =>
    simp only [pv] at h
    split at h
    · rename_i α hα
      exact val rfl (uoA_ok (evA_ok he hα) h w)
    · cases h
  | convert s t x =>
    simp only [pv] at h
    split at h
    · rename_i α hα
      exact val rfl (cvA_ok (evA_ok he hα) h w)
    · cases h
  | extract x i =>
    simp only [pv] at h
    split at h
    · rename_i l hl
      split at h
      · rename_i α hα
        simp only [Option.some.injEq, Prod.mk.injEq] at h
        obtain ⟨rfl, rfl⟩ := h
        obtain ⟨us, e, hr⟩ := evA_ok he hl
        obtain ⟨u, hu, hr⟩ := relVs_get hr hα
        refine val rfl ⟨u, ?_, hr⟩
        rw [e]
        simp [Instr.extract, hu]
      · cases h
    · cases h
  | nilCheck x =>
    simp only [pv] at h
    split at h
    · rename_i α hα
      split at h
      · rename_i hn
        simp only [Option.some.injEq, Prod.mk.injEq] at h
        obtain ⟨rfl, rfl⟩ := h
        have hr := evA_ok he hα
        refine ⟨a.eval x, ?_, hr⟩
        unfold okNil at hn
        split at hn
        · obtain ⟨g, _, e⟩ := hr
          simp only [execOp, e]
          rfl
        · obtain ⟨_, g, off, cs, e, _⟩ := hr
          simp only [execOp, e]
          rfl
        · obtain ⟨us, e, _⟩ := hr
          simp only [execOp, e]
          rfl
        · cases hn
      · cases h
    · cases h
  | makeFunc f first cap =>
    cases f <;> simp only [pv, reduceCtorEq] at h
    split at h
    · rename_i l hf hl
      simp only [Option.some.injEq, Prod.mk.injEq] at h
      obtain ⟨rfl, rfl⟩ := h
      have hr := evL_ok he hl
      have e1 : first = #[] := by apply Array.ext'; simpa using hf
      subst e1
      refine val rfl ⟨_, rfl, _, ?_, hr⟩
      simp
      congr 1
      apply Array.ext'
      simp
    · cases h
  | build T ps =>
    simp only [pv] at h
    split at h
    · rename_i l hl
      split at h
      · rename_i r hr
        split at h
        · rename_i ha
          simp only [Option.some.injEq, Prod.mk.injEq] at h
          obtain ⟨rfl, rfl⟩ := h
          obtain ⟨k1, k2⟩ := evPs_ok he hl
          have := bldT_ok hr ha k2 (by simp [k1]) w
          have e : ps.map (fun (x : Nat × Operand) => (x.1, a.eval x.2)) = (ps.toList.map fun x => (x.1, a.eval x.2)).toArray := by apply Array.ext'; simp
          refine val (s := Instr.build T (ps.map fun (x : Nat × Operand) => (x.1, a.eval x.2))) rfl ?_
          rw [e]
          exact this
        · cases h
      · cases h
    · cases h
  | slice T x lo hi mx =>
    cases mx with
    | some y =>
      cases hi with
      | none => simp [pv] at h
      | some hi =>
        simp only [pv] at h
        split at h
        · rename_i α o1 o2 o3 hα h1 h2 h3
          exact val rfl (slF_ok hc (evA_ok he hα) (evO_ok he h1) (evA_ok he h2) (evA_ok he h3) h hC)
        · cases h
    | none =>
      simp only [pv] at h
      split at h
      · rename_i α o1 o2 hα h1 h2
        exact val rfl (slR_ok hc (evA_ok he hα) (evO_ok he h1) (evO_ok he h2) h hC)
      · cases h
  | call c =>
    obtain ⟨callee, xs, ts⟩ := c
    cases callee <;> simp only [pv, reduceCtorEq] at h
    rename_i bi
    split at h
    · rename_i l hl
      split at h
      · rename_i hs
        have hs := Nat.eq_of_beq_eq_true hs
        have hr := evL_ok he hl
        rw [zip_map a.eval _ _ (by simpa using hs)] at hr
        obtain ⟨r, h1, h2, h3⟩ := biA_ok (ty := ty) hc hr h
        have e2 : xs.map a.eval = (xs.toList.map a.eval).toArray := by apply Array.ext'; simp
        refine ⟨r, ?_, h2⟩
        rcases h3 with rfl | rfl | rfl
        · simp only [execOp, resolve]
          rw [e2]
          simp only at h1
          simp [invoke, builtin, h1]
        · simp only [execOp, resolve]
          rw [e2]
          simp only at h1
          simp [invoke, builtin, h1]
        · simp only [execOp, resolve]
          rw [e2]
          simp only at h1
          simp [invoke, builtin, h1]
      · cases h
    · cases h
  | _ => simp [pv] at h
end
end Go.Proofs.YtlhbekiplnmolaaDoor
