/- The machine's side, told once: loops, joins, other views of what is known. -/
import Derived.Test.YtlhbekiplnmolaaDoorEC
import Derived.KernelRfl
set_option linter.unusedVariables false
set_option linter.unusedSimpArgs false
namespace Go.Proofs.YtlhbekiplnmolaaDoor
open Go.RowKit

/-! ### Loops of plain functions -/
def iterO {σ τ : Type} (body : σ → Option (σ ⊕ τ)) : Nat → σ → Option τ
  | 0, _ => none
  | n + 1, s => match body s with
    | none => none
    | some (.inl s') => iterO body n s'
    | some (.inr r) => some r
theorem iterO_mono {σ τ : Type} {body : σ → Option (σ ⊕ τ)} : ∀ {n : Nat} {s : σ} {r : τ}, iterO body n s = some r → ∀ m, n ≤ m → iterO body m s = some r
  | 0, s, r, h, _, _ => by simp [iterO] at h
  | n + 1, s, r, h, m, hm => by
    obtain ⟨m, rfl⟩ : ∃ k, m = k + 1 := ⟨m - 1, by omega⟩
    simp only [iterO] at h ⊢
    split at h
    · cases h
    · rename_i s' e; exact iterO_mono h m (by omega)
    · exact h
open Classical in
/-- The loop's answer, if it comes to one. -/
noncomputable def loopO {σ τ : Type} (body : σ → Option (σ ⊕ τ)) (s : σ) : Option τ :=
  if h : ∃ n r, iterO body n s = some r then some h.choose_spec.choose else none
theorem loopO_iff {σ τ : Type} {body : σ → Option (σ ⊕ τ)} {s : σ} {r : τ} : loopO body s = some r ↔ ∃ n, iterO body n s = some r := by
  unfold loopO
  constructor
  · intro h
    split at h
    · rename_i hh
      obtain rfl := Option.some.inj h
      exact ⟨hh.choose, hh.choose_spec.choose_spec⟩
    · cases h
  · rintro ⟨n, hn⟩
    have hh : ∃ n r, iterO body n s = some r := ⟨n, r, hn⟩
    rw [dif_pos hh]
    have h1 := iterO_mono hh.choose_spec.choose_spec (max hh.choose n) (Nat.le_max_left _ _)
    have h2 := iterO_mono hn (max hh.choose n) (Nat.le_max_right _ _)
    rw [h1] at h2
    exact h2
theorem loopO_eq {σ τ : Type} (body : σ → Option (σ ⊕ τ)) (s : σ) : loopO body s = (body s).bind fun | .inl s' => loopO body s' | .inr r => some r := by
  apply Option.ext
  intro r
  rw [loopO_iff]
  constructor
  · rintro ⟨n, h⟩
    cases n with
    | zero => simp [iterO] at h
    | succ n =>
      simp only [iterO] at h
      split at h
      · cases h
      · rename_i s' e; rw [e]; exact loopO_iff.2 ⟨n, h⟩
      · rename_i r' e; rw [e]; exact h
  · intro h
    cases hb : body s with
    | none => simp [hb] at h
    | some o =>
      cases o with
      | inl s' =>
        simp only [hb, Option.bind_some] at h
        obtain ⟨n, hn⟩ := loopO_iff.1 h
        exact ⟨n + 1, by simp [iterO, hb, hn]⟩
      | inr r' =>
        simp only [hb, Option.bind_some] at h
        exact ⟨1, by simp [iterO, hb, h]⟩

/-! ### Steps through an equation -/
theorem ift {α : Type} {z : Bool} {a c : Option α} {y : α} (h : z = true) (e : (if z = true then a else c) = some y) : a = some y := by rwa [if_pos h] at e
theorem ifn {α : Type} {z : Bool} {a c : Option α} {y : α} (h : z = false) (e : (if z = true then a else c) = some y) : c = some y := by rwa [if_neg (by rw [h]; decide)] at e
theorem ifg {α : Type} {p : Prop} [Decidable p] {a : Option α} {y : α} (e : (if p then a else none) = some y) : p ∧ a = some y := by
  by_cases h : p
  · rw [if_pos h] at e; exact ⟨h, e⟩
  · rw [if_neg h] at e; cases e
theorem obd {α β : Type} {o : Option α} {f : α → Option β} {y : β} (h : o.bind f = some y) : ∃ t, o = some t ∧ f t = some y := by
  cases o with
  | none => cases h
  | some t => exact ⟨t, rfl, h⟩

section
variable {P : Program} {fn : Func} {n0 : Nat} {b : Base n0} {R : Exit → Act → World → Prop} {k : List KI} {ρ : AEnv} {H : AStore}

theorem run_loopO {σ τ : Type} {c : Code} {body : σ → Option (σ ⊕ τ)} {s0 : σ} {r : τ} (hl : loopO body s0 = some r) (ρf : σ → AEnv) (Hf : σ → AStore) (h0 : ρf s0 = ρ) (h1 : Hf s0 = H)
    (step : ∀ s o, body s = some o → (∀ s', o = .inl s' → Run P fn b R (.loop c :: k) (ρf s') (Hf s')) → (∀ q, o = .inr q → q = r) → Run P fn b R (.loop c :: k) (ρf s) (Hf s)) : Run P fn b R (.loop c :: k) ρ H := by
  subst h0 h1
  obtain ⟨n, hn⟩ := loopO_iff.1 hl
  clear hl
  induction n generalizing s0 with
  | zero => simp [iterO] at hn
  | succ n ih =>
    simp only [iterO] at hn
    cases hb : body s0 with
    | none => simp [hb] at hn
    | some o =>
      refine step s0 o hb (fun s' e => ?_) (fun q e => ?_)
      · subst e
        rw [hb] at hn
        exact ih hn
      · subst e
        rw [hb] at hn
        exact Option.some.inj hn

/-- What comes behind, told once. -/
theorem run_cut {σ : Type} {c : Code} (Φ : σ → Prop) (ρf : σ → AEnv) (Hf : σ → AStore) (hk : ∀ s, Φ s → Run P fn b R k (ρf s) (Hf s)) (h : (∀ s, Φ s → Run P fn b R k (ρf s) (Hf s)) → Run P fn b R (.code c :: k) ρ H) : Run P fn b R (.code c :: k) ρ H := h hk

theorem run_trim {ρ' : AEnv} {H' : AStore} (ls lh : List Nat) (h1 : trimE ls ρ = some ρ') (h2 : trimH lh H = some H') (hn : nodupB lh = true) (h : Run P fn b R k ρ' H') : Run P fn b R k ρ H :=
  run_st h fun _ _ g => g.trim h1 h2 hn

/-! ### Other views -/
/-- A value, seen in another shape. -/
def coeA (t : Sh) : AVal → Option AVal
  | .v s x => if t.fixed && (s.agg == t.agg) then match coeS s t x with
    | some y => some (.v t y)
    | none => none
    else none
  | _ => none
theorem coeA_ok {M : Fz} {φ : Nat → Value} {t : Sh} {α β : AVal} {u : Value} (h : coeA t α = some β) (hr : RelV P M φ α u) : RelV P M φ β u := by
  unfold coeA at h
  split at h
  · split at h
    · rename_i s x hh
      simp only [Bool.and_eq_true, beq_iff_eq] at hh
      split at h
      · rename_i y hy
        simp only [Option.some.injEq] at h
        subst h
        obtain ⟨_, cs, rfl, hc⟩ := hr
        exact ⟨hh.1, cs, by simp [mkV, hh.2], coeS_ok hy hc⟩
      · cases h
    · cases h
  · cases h

def mapE (t : Nat) (f : AVal → Option AVal) : AEnv → Option AEnv
  | [] => some []
  | (s, α) :: ρ => match (if Nat.beq s t then f α else some α), mapE t f ρ with
    | some β, some r => some ((s, β) :: r)
    | _, _ => none
theorem mapE_ok {M : Fz} {φ : Nat → Value} {t : Nat} {f : AVal → Option AVal} (hf : ∀ α β u, f α = some β → RelV P M φ α u → RelV P M φ β u) : ∀ {ρ ρ' : AEnv} {tmps : Array Value}, mapE t f ρ = some ρ' → EnvR P M φ ρ tmps → EnvR P M φ ρ' tmps
  | [], ρ', tmps, h, _ => by simp only [mapE, Option.some.injEq] at h; subst h; exact fun s α hs => by simp [look] at hs
  | (s, α) :: ρ, ρ', tmps, h, he => by
    simp only [mapE] at h
    split at h
    · rename_i β r h1 h2
      simp only [Option.some.injEq] at h
      subst h
      have hne : ∀ q γ, look r q = some γ → Nat.beq s q = false → ∃ v, tmps[q]? = some v ∧ RelV P M φ γ v := by
        have hlook : ∀ {ρ r : AEnv}, mapE t f ρ = some r → ∀ q γ, look r q = some γ → ∃ δ, look ρ q = some δ ∧ (γ = δ ∨ f δ = some γ) := by
          intro ρ
          induction ρ with
          | nil => intro r h q γ hq; simp only [mapE, Option.some.injEq] at h; subst h; simp [look] at hq
          | cons y ρ ih =>
            obtain ⟨s', α'⟩ := y
            intro r h q γ hq
            simp only [mapE] at h
            split at h
            · rename_i β' r' k1 k2
              simp only [Option.some.injEq] at h
              subst h
              simp only [look] at hq ⊢
              split at hq
              · rename_i e
                simp only [Option.some.injEq] at hq
                subst hq
                rw [if_pos e]
                refine ⟨α', rfl, ?_⟩
                split at k1
                · exact .inr k1
                · exact .inl (Option.some.inj k1).symm
              · rename_i e
                rw [if_neg e]
                exact ih k2 q γ hq
            · cases h
        intro q γ hq hs
        obtain ⟨δ, k1, k2⟩ := hlook h2 q γ hq
        obtain ⟨v, k3, k4⟩ := he q δ (by simp only [look, hs]; simpa using k1)
        refine ⟨v, k3, ?_⟩
        rcases k2 with rfl | k2
        · exact k4
        · exact hf _ _ _ k2 k4
      intro q γ hq
      simp only [look] at hq
      split at hq
      · rename_i e
        have e' := Nat.eq_of_beq_eq_true e
        simp only [Option.some.injEq] at hq
        subst e' hq
        obtain ⟨v, k1, k2⟩ := he s α (by simp [look])
        refine ⟨v, k1, ?_⟩
        split at h1
        · exact hf _ _ _ h1 k2
        · obtain rfl := Option.some.inj h1; exact k2
      · rename_i e
        exact hne q γ hq (Bool.eq_false_iff.2 e)
    · cases h

/-- One slot seen in another shape. -/
theorem run_coe {ρ' : AEnv} (t : Nat) (s : Sh) (h1 : mapE t (coeA s) ρ = some ρ') (h : Run P fn b R k ρ' H) : Run P fn b R k ρ H :=
  run_st h fun _ _ ⟨M, φ, ξ, g1, g2⟩ => ⟨M, φ, ξ, g1, mapE_ok (fun _ _ _ => coeA_ok) h1 g2⟩
end
end Go.Proofs.YtlhbekiplnmolaaDoor
