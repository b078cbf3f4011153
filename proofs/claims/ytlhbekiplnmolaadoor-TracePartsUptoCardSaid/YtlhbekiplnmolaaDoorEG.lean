/- Small laws that gene.py's texts use. -/
import Derived.Test.YtlhbekiplnmolaaDoorEHf
import Derived.KernelRfl
set_option linter.unusedVariables false
set_option linter.unusedSimpArgs false
namespace Go.Proofs.YtlhbekiplnmolaaDoor
open Go.RowKit

/-- Room for so many elements, of so many bytes each. -/
def apOk (n bytes : Nat) : Prop := n * bytes ≤ 140737488355328 ∧ n ≤ maxLen
instance {n bytes : Nat} : Decidable (apOk n bytes) := by unfold apOk; infer_instance
open Classical in
/-- What a function comes to, however deep it calls itself. -/
noncomputable def limO {τ : Type} (g : Nat → Option τ) : Option τ := if h : ∃ n r, g n = some r then g h.choose else none
theorem limO_some {τ : Type} {g : Nat → Option τ} {r : τ} (h : limO g = some r) : ∃ n, g n = some r := by
  unfold limO at h
  split at h
  · exact ⟨_, h⟩
  · cases h
theorem limO_of {τ : Type} {g : Nat → Option τ} {r : τ} {n : Nat} (h : g n = some r) (hm : ∀ i j r s, g i = some r → g j = some s → r = s) : limO g = some r := by
  have hh : ∃ n r, g n = some r := ⟨n, r, h⟩
  unfold limO
  rw [dif_pos hh]
  obtain ⟨s, hs⟩ := hh.choose_spec
  rw [hs, hm _ _ _ _ hs h]
theorem c0 : AllP [] := trivial
theorem cc {p : Prop} {l : List Prop} (h : p) (t : AllP l) : AllP (p :: l) := ⟨h, t⟩
abbrev vi (x : Int) : AVal := .v (.int .i64) x
abbrev vu (x : Int) : AVal := .v (.int .u64) x
abbrev vb (x : Bool) : AVal := .v .bool x
abbrev vs (x : Str) : AVal := .v .str x
theorem oo {n : Int} {k : Nat} {q : Prop} (h : 0 ≤ n ∧ n < (k : Int)) (t : q) : n.toNat < k ∧ q := ⟨okI h, t⟩
section
variable {P : Program} {fn : Func} {n0 : Nat} {b : Base n0} {R : Exit → Act → World → Prop} {k : List KI} {ρ : AEnv} {H : AStore} {ops : Array Oper}
theorem rg {c : Code} {C : List Prop} (ρ' : AEnv) (H' : AStore) (orc : List (Nat × Orc)) (dec : List (Nat × Bool)) (L0 : Nat) (hc : Code.kind c = .region ops false) (h : evReg P n0 fn.ntmps orc dec L0 (ρ'.map Prod.fst) (H'.map Prod.fst) ops ρ H = some (ρ', H', C)) (hC : AllP C) (hr : Run P fn b R k ρ' H') : Run P fn b R (.code c :: k) ρ H :=
  reg orc dec L0 _ _ C hc h hC hr
theorem sq {c : Code} (hc : Code.kind c = .seq) (h : Run P fn b R (.code (Code.sub c 0) :: .code (Code.sub c 1) :: k) ρ H) : Run P fn b R (.code c :: k) ρ H := run_seq hc h
theorem sk {c : Code} (hc : Code.kind c = .skip) (h : Run P fn b R k ρ H) : Run P fn b R (.code c :: k) ρ H := run_skip hc h
theorem bk {c : Code} {id : Nat} (hc : Code.kind c = .block id) (h : Run P fn b R (.code (Code.sub c 0) :: .block id :: k) ρ H) : Run P fn b R (.code c :: k) ρ H := run_block hc h
theorem eb {id : Nat} (h : Run P fn b R k ρ H) : Run P fn b R (.block id :: k) ρ H := h
theorem tm {ρ' : AEnv} {H' : AStore} (h1 : trimE (ρ'.map Prod.fst) ρ = some ρ') (h2 : trimH (H'.map Prod.fst) H = some H') (hn : nodupB (H'.map Prod.fst) = true) (h : Run P fn b R k ρ' H') : Run P fn b R k ρ H := run_trim _ _ h1 h2 hn h
theorem rG {c : Code} {C : List Prop} (ρ' : AEnv) (H' : AStore) (orc : List (Nat × Orc)) (dec : List (Nat × Bool)) (L0 : Nat) (hm : P.follows .mixedOrders = true) (hc : Code.kind c = .region ops true) (h : evG P n0 fn.ntmps orc dec L0 (ρ'.map Prod.fst) (H'.map Prod.fst) ops ρ H = some (ρ', H', C)) (hC : AllP C) (hr : Run P fn b R k ρ' H') : Run P fn b R (.code c :: k) ρ H :=
  regG orc dec L0 _ _ C hm hc h hC hr
theorem rF {c : Code} {C : List Prop} (m : Nat) (ρ' : AEnv) (H' : AStore) (orc : List (Nat × Orc)) (dec : List (Nat × Bool)) (L0 : Nat) (hm : P.follows .mixedOrders = true) (hc : Code.kind c = .region ops true) (h : evF P n0 fn.ntmps orc dec m L0 (ρ'.map Prod.fst) (H'.map Prod.fst) ops ρ H = some (ρ', H', C)) (hC : AllP C) (hr : Run P fn b R k ρ' H') : Run P fn b R (.code c :: k) ρ H :=
  regF orc dec m L0 _ _ C hm hc h hC hr
end
theorem sumL {α β γ : Type} {f : α → Option γ} {g : β → Option γ} {a : α} {y : γ} (h : Sum.elim f g (Sum.inl a) = some y) : f a = some y := h
theorem sumR {α β γ : Type} {f : α → Option γ} {g : β → Option γ} {a : β} {y : γ} (h : Sum.elim f g (Sum.inr a) = some y) : g a = some y := h
theorem inrI {σ τ : Type} {a : τ} {o : σ ⊕ τ} {r : τ} (hr : ∀ q, o = .inr q → q = r) (h : some (Sum.inr a) = some o) : a = r := hr a (Option.some.inj h).symm
/-- Results in other shapes, or as they are. -/
def coeM : List (Option Sh) → List AVal → Option (List AVal)
  | [], [] => some []
  | some s :: ss, α :: l => match coeA s α, coeM ss l with
    | some β, some r => some (β :: r)
    | _, _ => none
  | none :: ss, α :: l => match coeM ss l with
    | some r => some (α :: r)
    | none => none
  | _, _ => none
theorem coeM_ok {P : Program} {M : Fz} {φ : Nat → Value} : ∀ {ss : List (Option Sh)} {l l' : List AVal} {us : List Value}, coeM ss l = some l' → RelVs P M φ l us → RelVs P M φ l' us
  | [], [], l', us, h, hr => by simp only [coeM, Option.some.injEq] at h; subst h; exact hr
  | some s :: ss, α :: l, l', us, h, hr => by
    simp only [coeM] at h
    split at h
    · rename_i β r h1 h2
      simp only [Option.some.injEq] at h
      subst h
      obtain ⟨u, q, rfl, k1, k2⟩ := hr
      exact ⟨u, q, rfl, coeA_ok h1 k1, coeM_ok h2 k2⟩
    · cases h
  | none :: ss, α :: l, l', us, h, hr => by
    simp only [coeM] at h
    split at h
    · rename_i r h2
      simp only [Option.some.injEq] at h
      subst h
      obtain ⟨u, q, rfl, k1, k2⟩ := hr
      exact ⟨u, q, rfl, k1, coeM_ok h2 k2⟩
    · cases h
  | [], _ :: _, _, _, h, _ => by simp [coeM] at h
  | some _ :: _, [], _, _, h, _ => by simp [coeM] at h
  | none :: _, [], _, _, h, _ => by simp [coeM] at h
theorem coeM_len : ∀ {ss : List (Option Sh)} {l l' : List AVal}, coeM ss l = some l' → l'.length = l.length
  | [], [], l', h => by simp only [coeM, Option.some.injEq] at h; subst h; rfl
  | some s :: ss, α :: l, l', h => by
    simp only [coeM] at h
    split at h
    · rename_i β r h1 h2
      simp only [Option.some.injEq] at h
      subst h
      simp [coeM_len h2]
    · cases h
  | none :: ss, α :: l, l', h => by
    simp only [coeM] at h
    split at h
    · rename_i r h2
      simp only [Option.some.injEq] at h
      subst h
      simp [coeM_len h2]
    · cases h
  | [], _ :: _, _, h => by simp [coeM] at h
  | some _ :: _, [], _, h => by simp [coeM] at h
  | none :: _, [], _, h => by simp [coeM] at h
theorem oneM_ok {P : Program} {M : Fz} {φ : Nat → Value} {ss : List (Option Sh)} {l l' : List AVal} {u : Value} (h : coeM ss l = some l') (hr : RelV P M φ (one l) u) : RelV P M φ (one l') u := by
  have hl := coeM_len h
  match l, l', h, hl, hr with
  | [], [], _, _, hr => exact hr
  | [α], [β], h, _, hr =>
    have := coeM_ok h (us := [u]) ⟨u, [], rfl, hr, rfl⟩
    obtain ⟨v, r, e, h1, h2⟩ := this
    simp only [List.cons.injEq] at e
    rw [e.1]
    exact h1
  | α :: γ :: l, β :: δ :: l', h, _, hr =>
    obtain ⟨us, e, h1⟩ := hr
    exact ⟨us, e, coeM_ok h h1⟩
theorem run_cutx {P : Program} {fn : Func} {n0 : Nat} {b : Base n0} {R : Exit → Act → World → Prop} {k : List KI} {ρ : AEnv} {H : AStore} {σ : Type} (id : Nat) {k' : List KI} (_ : popTo id k = some k') (Φ : σ → Prop) (ρf : σ → AEnv) (Hf : σ → AStore)
    (hk : ∀ s, Φ s → Run P fn b R k' (ρf s) (Hf s)) (h : (∀ s, Φ s → Run P fn b R k' (ρf s) (Hf s)) → Run P fn b R k ρ H) : Run P fn b R k ρ H := h hk

/-- The result of what writes memory that it is given. -/
def resM (P : Program) (ρ : AEnv) (H : AStore) (rs : List ResultVar) (ss : List (Option Sh)) : Option (List AVal) := match resAs P ρ H rs with
  | some q => coeM ss q
  | none => none
theorem ret_mut {P : Program} {fn : Func} {n0 : Nat} {b : Base n0} {k : List KI} {ρ : AEnv} {H : AStore} {c : Code} {q : List AVal} {β : AVal} {Ho : AStore} (ss : List (Option Sh)) (lh : List Nat) (hc : Code.kind c = .ret) (hb : one q = β) (hq : resM P ρ H fn.results.toList ss = some q) (hn : nodupB lh = true) (hh : trimH lh H = some Ho) : Run P fn b (bodyPost P fn (MutR P b β Ho)) (.code c :: k) ρ H := by
  subst hb
  unfold resM at hq
  split at hq
  · rename_i q0 h1
    obtain ⟨k1, k2⟩ := trimH_ok hh
    exact run_ret hc h1 fun M φ ξ w v hc hv => ⟨M, φ, ξ, v, rfl, hc.pick (by rw [k1]; exact nodupB_ok hn) k2, oneM_ok hq hv⟩
  · cases hq
theorem fall_mut {P : Program} {fn : Func} {n0 : Nat} {b : Base n0} {ρ : AEnv} {H : AStore} {q : List AVal} {β : AVal} {Ho : AStore} (ss : List (Option Sh)) (lh : List Nat) (hb : one q = β) (hq : resM P ρ H fn.results.toList ss = some q) (hn : nodupB lh = true) (hh : trimH lh H = some Ho) : Run P fn b (bodyPost P fn (MutR P b β Ho)) [] ρ H := by
  subst hb
  unfold resM at hq
  split at hq
  · rename_i q0 h1
    obtain ⟨k1, k2⟩ := trimH_ok hh
    exact run_fall h1 fun M φ ξ w v hc hv => ⟨M, φ, ξ, v, rfl, hc.pick (by rw [k1]; exact nodupB_ok hn) k2, oneM_ok hq hv⟩
  · cases hq
end Go.Proofs.YtlhbekiplnmolaaDoor
