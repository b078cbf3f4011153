/- The machine's side, told once: loops, slices, rows of the call's own. -/
import Derived.Test.YthapghhmeicbnaaDoorK3
import Derived.Laws.OwnMore
import Derived.Laws.MakeOwn
set_option linter.unusedVariables false
set_option linter.unusedSimpArgs false
namespace Go.Proofs.YthapghhmeicbnaaDoor
open Go.RowKit

def EnvSub : Env → Env → Prop
  | [], _ => True
  | (t, v) :: l, ρ => look ρ t = some v ∧ EnvSub l ρ

theorem EnvSub.ok {ρ' ρ : Env} (h : EnvSub ρ' ρ) : ∀ t v, look ρ' t = some v → look ρ t = some v := by
  refine look_sub ?_
  induction ρ' with
  | nil => intro x hx; cases hx
  | cons y l ih =>
    obtain ⟨t, v⟩ := y
    intro x hx
    rcases List.mem_cons.1 hx with rfl | hx
    · exact h.1
    · exact ih h.2 x hx

def HpSub : Hp → List Nat → Hp → Prop
  | [], [], _ => True
  | x :: l, i :: is, H => H[i]? = some x ∧ HpSub l is H
  | _, _, _ => False

theorem HpSub.ok : ∀ {H' : Hp} {l : List Nat} {H : Hp}, HpSub H' l H → l.map (fun i => H[i]?) = H'.map some
  | [], [], _, _ => rfl
  | x :: l, i :: is, H, h => by
    have := HpSub.ok h.2
    simp [h.1, this]
  | [], _ :: _, _, h => h.elim
  | _ :: _, [], _, h => h.elim

section
variable {P : Program} {fn : Func} {w0 : World} {k : List KI} {ρ : Env} {H : Hp} {R : Value → Hp → Prop} {ops : Array Oper} {i : Nat} {todo : List Nat} {dst : Option Tmp} {d : Tmp}

/-- Forgetting, told by lists. -/
theorem run_less {ρ' : Env} {H' : Hp} (l : List Nat) (h : Run P fn w0 k ρ' H' R) (hρ : EnvSub ρ' ρ) (hH : HpSub H' l H) (hl : l.Nodup) : Run P fn w0 k ρ H R :=
  run_weak h hρ.ok l hl hH.ok

theorem run_ind0 {ι : Type} (m : ι → Nat) (ρf : ι → Env) (Hf : ι → Hp) (I : ι → Prop) (x0 : ι) (h0 : I x0) (l : List Nat) (hρ : EnvSub (ρf x0) ρ) (hH : HpSub (Hf x0) l H) (hl : l.Nodup)
    (step : ∀ x, I x → (∀ y, I y → m y < m x → Run P fn w0 k (ρf y) (Hf y) R) → Run P fn w0 k (ρf x) (Hf x) R) : Run P fn w0 k ρ H R := by
  have key : ∀ n x, m x = n → I x → Run P fn w0 k (ρf x) (Hf x) R := by
    intro n
    induction n using Nat.strongRecOn with
    | _ n ih => intro x hx hI; exact step x hI fun y hy hm => ih (m y) (hx ▸ hm) y rfl hy
  exact run_less l (key _ x0 rfl h0) hρ hH hl

theorem run_ind1 {τ0 : Type} (m : τ0 → Nat) (ρf : τ0 → Env) (Hf : τ0 → Hp) (I : τ0 → Prop) (z0 : τ0) (h0 : I z0) (l : List Nat) (hρ : EnvSub (ρf z0) ρ) (hH : HpSub (Hf z0) l H) (hl : l.Nodup)
    (step : ∀ (x0 : τ0), I x0 → (∀ (y0 : τ0), I y0 → m y0 < m x0 → Run P fn w0 k (ρf y0) (Hf y0) R) → Run P fn w0 k (ρf x0) (Hf x0) R) : Run P fn w0 k ρ H R :=
  run_ind0 (ι := τ0) (fun x => m x) (fun x => ρf x) (fun x => Hf x) (fun x => I x) z0 h0 l hρ hH hl fun x hx ih => step x hx fun y0 hy hm => ih y0 hy hm

theorem run_ind2 {τ0 τ1 : Type} (m : τ0 → τ1 → Nat) (ρf : τ0 → τ1 → Env) (Hf : τ0 → τ1 → Hp) (I : τ0 → τ1 → Prop) (z0 : τ0) (z1 : τ1) (h0 : I z0 z1) (l : List Nat) (hρ : EnvSub (ρf z0 z1) ρ) (hH : HpSub (Hf z0 z1) l H) (hl : l.Nodup)
    (step : ∀ (x0 : τ0) (x1 : τ1), I x0 x1 → (∀ (y0 : τ0) (y1 : τ1), I y0 y1 → m y0 y1 < m x0 x1 → Run P fn w0 k (ρf y0 y1) (Hf y0 y1) R) → Run P fn w0 k (ρf x0 x1) (Hf x0 x1) R) : Run P fn w0 k ρ H R :=
  run_ind0 (ι := τ0 × τ1) (fun x => m (x.1) (x.2)) (fun x => ρf (x.1) (x.2)) (fun x => Hf (x.1) (x.2)) (fun x => I (x.1) (x.2)) (z0, z1) h0 l hρ hH hl fun x hx ih => step (x.1) (x.2) hx fun y0 y1 hy hm => ih (y0, y1) hy hm

theorem run_ind3 {τ0 τ1 τ2 : Type} (m : τ0 → τ1 → τ2 → Nat) (ρf : τ0 → τ1 → τ2 → Env) (Hf : τ0 → τ1 → τ2 → Hp) (I : τ0 → τ1 → τ2 → Prop) (z0 : τ0) (z1 : τ1) (z2 : τ2) (h0 : I z0 z1 z2) (l : List Nat) (hρ : EnvSub (ρf z0 z1 z2) ρ) (hH : HpSub (Hf z0 z1 z2) l H) (hl : l.Nodup)
    (step : ∀ (x0 : τ0) (x1 : τ1) (x2 : τ2), I x0 x1 x2 → (∀ (y0 : τ0) (y1 : τ1) (y2 : τ2), I y0 y1 y2 → m y0 y1 y2 < m x0 x1 x2 → Run P fn w0 k (ρf y0 y1 y2) (Hf y0 y1 y2) R) → Run P fn w0 k (ρf x0 x1 x2) (Hf x0 x1 x2) R) : Run P fn w0 k ρ H R :=
  run_ind0 (ι := τ0 × τ1 × τ2) (fun x => m (x.1) (x.2.1) (x.2.2)) (fun x => ρf (x.1) (x.2.1) (x.2.2)) (fun x => Hf (x.1) (x.2.1) (x.2.2)) (fun x => I (x.1) (x.2.1) (x.2.2)) (z0, z1, z2) h0 l hρ hH hl fun x hx ih => step (x.1) (x.2.1) (x.2.2) hx fun y0 y1 y2 hy hm => ih (y0, y1, y2) hy hm

theorem run_ind4 {τ0 τ1 τ2 τ3 : Type} (m : τ0 → τ1 → τ2 → τ3 → Nat) (ρf : τ0 → τ1 → τ2 → τ3 → Env) (Hf : τ0 → τ1 → τ2 → τ3 → Hp) (I : τ0 → τ1 → τ2 → τ3 → Prop) (z0 : τ0) (z1 : τ1) (z2 : τ2) (z3 : τ3) (h0 : I z0 z1 z2 z3) (l : List Nat) (hρ : EnvSub (ρf z0 z1 z2 z3) ρ) (hH : HpSub (Hf z0 z1 z2 z3) l H) (hl : l.Nodup)
    (step : ∀ (x0 : τ0) (x1 : τ1) (x2 : τ2) (x3 : τ3), I x0 x1 x2 x3 → (∀ (y0 : τ0) (y1 : τ1) (y2 : τ2) (y3 : τ3), I y0 y1 y2 y3 → m y0 y1 y2 y3 < m x0 x1 x2 x3 → Run P fn w0 k (ρf y0 y1 y2 y3) (Hf y0 y1 y2 y3) R) → Run P fn w0 k (ρf x0 x1 x2 x3) (Hf x0 x1 x2 x3) R) : Run P fn w0 k ρ H R :=
  run_ind0 (ι := τ0 × τ1 × τ2 × τ3) (fun x => m (x.1) (x.2.1) (x.2.2.1) (x.2.2.2)) (fun x => ρf (x.1) (x.2.1) (x.2.2.1) (x.2.2.2)) (fun x => Hf (x.1) (x.2.1) (x.2.2.1) (x.2.2.2)) (fun x => I (x.1) (x.2.1) (x.2.2.1) (x.2.2.2)) (z0, z1, z2, z3) h0 l hρ hH hl fun x hx ih => step (x.1) (x.2.1) (x.2.2.1) (x.2.2.2) hx fun y0 y1 y2 y3 hy hm => ih (y0, y1, y2, y3) hy hm

theorem run_ind5 {τ0 τ1 τ2 τ3 τ4 : Type} (m : τ0 → τ1 → τ2 → τ3 → τ4 → Nat) (ρf : τ0 → τ1 → τ2 → τ3 → τ4 → Env) (Hf : τ0 → τ1 → τ2 → τ3 → τ4 → Hp) (I : τ0 → τ1 → τ2 → τ3 → τ4 → Prop) (z0 : τ0) (z1 : τ1) (z2 : τ2) (z3 : τ3) (z4 : τ4) (h0 : I z0 z1 z2 z3 z4) (l : List Nat) (hρ : EnvSub (ρf z0 z1 z2 z3 z4) ρ) (hH : HpSub (Hf z0 z1 z2 z3 z4) l H) (hl : l.Nodup)
    (step : ∀ (x0 : τ0) (x1 : τ1) (x2 : τ2) (x3 : τ3) (x4 : τ4), I x0 x1 x2 x3 x4 → (∀ (y0 : τ0) (y1 : τ1) (y2 : τ2) (y3 : τ3) (y4 : τ4), I y0 y1 y2 y3 y4 → m y0 y1 y2 y3 y4 < m x0 x1 x2 x3 x4 → Run P fn w0 k (ρf y0 y1 y2 y3 y4) (Hf y0 y1 y2 y3 y4) R) → Run P fn w0 k (ρf x0 x1 x2 x3 x4) (Hf x0 x1 x2 x3 x4) R) : Run P fn w0 k ρ H R :=
  run_ind0 (ι := τ0 × τ1 × τ2 × τ3 × τ4) (fun x => m (x.1) (x.2.1) (x.2.2.1) (x.2.2.2.1) (x.2.2.2.2)) (fun x => ρf (x.1) (x.2.1) (x.2.2.1) (x.2.2.2.1) (x.2.2.2.2)) (fun x => Hf (x.1) (x.2.1) (x.2.2.1) (x.2.2.2.1) (x.2.2.2.2)) (fun x => I (x.1) (x.2.1) (x.2.2.1) (x.2.2.2.1) (x.2.2.2.2)) (z0, z1, z2, z3, z4) h0 l hρ hH hl fun x hx ih => step (x.1) (x.2.1) (x.2.2.1) (x.2.2.2.1) (x.2.2.2.2) hx fun y0 y1 y2 y3 y4 hy hm => ih (y0, y1, y2, y3, y4) hy hm

theorem run_ind6 {τ0 τ1 τ2 τ3 τ4 τ5 : Type} (m : τ0 → τ1 → τ2 → τ3 → τ4 → τ5 → Nat) (ρf : τ0 → τ1 → τ2 → τ3 → τ4 → τ5 → Env) (Hf : τ0 → τ1 → τ2 → τ3 → τ4 → τ5 → Hp) (I : τ0 → τ1 → τ2 → τ3 → τ4 → τ5 → Prop) (z0 : τ0) (z1 : τ1) (z2 : τ2) (z3 : τ3) (z4 : τ4) (z5 : τ5) (h0 : I z0 z1 z2 z3 z4 z5) (l : List Nat) (hρ : EnvSub (ρf z0 z1 z2 z3 z4 z5) ρ) (hH : HpSub (Hf z0 z1 z2 z3 z4 z5) l H) (hl : l.Nodup)
    (step : ∀ (x0 : τ0) (x1 : τ1) (x2 : τ2) (x3 : τ3) (x4 : τ4) (x5 : τ5), I x0 x1 x2 x3 x4 x5 → (∀ (y0 : τ0) (y1 : τ1) (y2 : τ2) (y3 : τ3) (y4 : τ4) (y5 : τ5), I y0 y1 y2 y3 y4 y5 → m y0 y1 y2 y3 y4 y5 < m x0 x1 x2 x3 x4 x5 → Run P fn w0 k (ρf y0 y1 y2 y3 y4 y5) (Hf y0 y1 y2 y3 y4 y5) R) → Run P fn w0 k (ρf x0 x1 x2 x3 x4 x5) (Hf x0 x1 x2 x3 x4 x5) R) : Run P fn w0 k ρ H R :=
  run_ind0 (ι := τ0 × τ1 × τ2 × τ3 × τ4 × τ5) (fun x => m (x.1) (x.2.1) (x.2.2.1) (x.2.2.2.1) (x.2.2.2.2.1) (x.2.2.2.2.2)) (fun x => ρf (x.1) (x.2.1) (x.2.2.1) (x.2.2.2.1) (x.2.2.2.2.1) (x.2.2.2.2.2)) (fun x => Hf (x.1) (x.2.1) (x.2.2.1) (x.2.2.2.1) (x.2.2.2.2.1) (x.2.2.2.2.2)) (fun x => I (x.1) (x.2.1) (x.2.2.1) (x.2.2.2.1) (x.2.2.2.2.1) (x.2.2.2.2.2)) (z0, z1, z2, z3, z4, z5) h0 l hρ hH hl fun x hx ih => step (x.1) (x.2.1) (x.2.2.1) (x.2.2.2.1) (x.2.2.2.2.1) (x.2.2.2.2.2) hx fun y0 y1 y2 y3 y4 y5 hy hm => ih (y0, y1, y2, y3, y4, y5) hy hm

theorem run_ind7 {τ0 τ1 τ2 τ3 τ4 τ5 τ6 : Type} (m : τ0 → τ1 → τ2 → τ3 → τ4 → τ5 → τ6 → Nat) (ρf : τ0 → τ1 → τ2 → τ3 → τ4 → τ5 → τ6 → Env) (Hf : τ0 → τ1 → τ2 → τ3 → τ4 → τ5 → τ6 → Hp) (I : τ0 → τ1 → τ2 → τ3 → τ4 → τ5 → τ6 → Prop) (z0 : τ0) (z1 : τ1) (z2 : τ2) (z3 : τ3) (z4 : τ4) (z5 : τ5) (z6 : τ6) (h0 : I z0 z1 z2 z3 z4 z5 z6) (l : List Nat) (hρ : EnvSub (ρf z0 z1 z2 z3 z4 z5 z6) ρ) (hH : HpSub (Hf z0 z1 z2 z3 z4 z5 z6) l H) (hl : l.Nodup)
    (step : ∀ (x0 : τ0) (x1 : τ1) (x2 : τ2) (x3 : τ3) (x4 : τ4) (x5 : τ5) (x6 : τ6), I x0 x1 x2 x3 x4 x5 x6 → (∀ (y0 : τ0) (y1 : τ1) (y2 : τ2) (y3 : τ3) (y4 : τ4) (y5 : τ5) (y6 : τ6), I y0 y1 y2 y3 y4 y5 y6 → m y0 y1 y2 y3 y4 y5 y6 < m x0 x1 x2 x3 x4 x5 x6 → Run P fn w0 k (ρf y0 y1 y2 y3 y4 y5 y6) (Hf y0 y1 y2 y3 y4 y5 y6) R) → Run P fn w0 k (ρf x0 x1 x2 x3 x4 x5 x6) (Hf x0 x1 x2 x3 x4 x5 x6) R) : Run P fn w0 k ρ H R :=
  run_ind0 (ι := τ0 × τ1 × τ2 × τ3 × τ4 × τ5 × τ6) (fun x => m (x.1) (x.2.1) (x.2.2.1) (x.2.2.2.1) (x.2.2.2.2.1) (x.2.2.2.2.2.1) (x.2.2.2.2.2.2)) (fun x => ρf (x.1) (x.2.1) (x.2.2.1) (x.2.2.2.1) (x.2.2.2.2.1) (x.2.2.2.2.2.1) (x.2.2.2.2.2.2)) (fun x => Hf (x.1) (x.2.1) (x.2.2.1) (x.2.2.2.1) (x.2.2.2.2.1) (x.2.2.2.2.2.1) (x.2.2.2.2.2.2)) (fun x => I (x.1) (x.2.1) (x.2.2.1) (x.2.2.2.1) (x.2.2.2.2.1) (x.2.2.2.2.2.1) (x.2.2.2.2.2.2)) (z0, z1, z2, z3, z4, z5, z6) h0 l hρ hH hl fun x hx ih => step (x.1) (x.2.1) (x.2.2.1) (x.2.2.2.1) (x.2.2.2.2.1) (x.2.2.2.2.2.1) (x.2.2.2.2.2.2) hx fun y0 y1 y2 y3 y4 y5 y6 hy hm => ih (y0, y1, y2, y3, y4, y5, y6) hy hm

theorem run_ind8 {τ0 τ1 τ2 τ3 τ4 τ5 τ6 τ7 : Type} (m : τ0 → τ1 → τ2 → τ3 → τ4 → τ5 → τ6 → τ7 → Nat) (ρf : τ0 → τ1 → τ2 → τ3 → τ4 → τ5 → τ6 → τ7 → Env) (Hf : τ0 → τ1 → τ2 → τ3 → τ4 → τ5 → τ6 → τ7 → Hp) (I : τ0 → τ1 → τ2 → τ3 → τ4 → τ5 → τ6 → τ7 → Prop) (z0 : τ0) (z1 : τ1) (z2 : τ2) (z3 : τ3) (z4 : τ4) (z5 : τ5) (z6 : τ6) (z7 : τ7) (h0 : I z0 z1 z2 z3 z4 z5 z6 z7) (l : List Nat) (hρ : EnvSub (ρf z0 z1 z2 z3 z4 z5 z6 z7) ρ) (hH : HpSub (Hf z0 z1 z2 z3 z4 z5 z6 z7) l H) (hl : l.Nodup)
    (step : ∀ (x0 : τ0) (x1 : τ1) (x2 : τ2) (x3 : τ3) (x4 : τ4) (x5 : τ5) (x6 : τ6) (x7 : τ7), I x0 x1 x2 x3 x4 x5 x6 x7 → (∀ (y0 : τ0) (y1 : τ1) (y2 : τ2) (y3 : τ3) (y4 : τ4) (y5 : τ5) (y6 : τ6) (y7 : τ7), I y0 y1 y2 y3 y4 y5 y6 y7 → m y0 y1 y2 y3 y4 y5 y6 y7 < m x0 x1 x2 x3 x4 x5 x6 x7 → Run P fn w0 k (ρf y0 y1 y2 y3 y4 y5 y6 y7) (Hf y0 y1 y2 y3 y4 y5 y6 y7) R) → Run P fn w0 k (ρf x0 x1 x2 x3 x4 x5 x6 x7) (Hf x0 x1 x2 x3 x4 x5 x6 x7) R) : Run P fn w0 k ρ H R :=
  run_ind0 (ι := τ0 × τ1 × τ2 × τ3 × τ4 × τ5 × τ6 × τ7) (fun x => m (x.1) (x.2.1) (x.2.2.1) (x.2.2.2.1) (x.2.2.2.2.1) (x.2.2.2.2.2.1) (x.2.2.2.2.2.2.1) (x.2.2.2.2.2.2.2)) (fun x => ρf (x.1) (x.2.1) (x.2.2.1) (x.2.2.2.1) (x.2.2.2.2.1) (x.2.2.2.2.2.1) (x.2.2.2.2.2.2.1) (x.2.2.2.2.2.2.2)) (fun x => Hf (x.1) (x.2.1) (x.2.2.1) (x.2.2.2.1) (x.2.2.2.2.1) (x.2.2.2.2.2.1) (x.2.2.2.2.2.2.1) (x.2.2.2.2.2.2.2)) (fun x => I (x.1) (x.2.1) (x.2.2.1) (x.2.2.2.1) (x.2.2.2.2.1) (x.2.2.2.2.2.1) (x.2.2.2.2.2.2.1) (x.2.2.2.2.2.2.2)) (z0, z1, z2, z3, z4, z5, z6, z7) h0 l hρ hH hl fun x hx ih => step (x.1) (x.2.1) (x.2.2.1) (x.2.2.2.1) (x.2.2.2.2.1) (x.2.2.2.2.2.1) (x.2.2.2.2.2.2.1) (x.2.2.2.2.2.2.2) hx fun y0 y1 y2 y3 y4 y5 y6 y7 hy hm => ih (y0, y1, y2, y3, y4, y5, y6, y7) hy hm

/-! ### Slices -/

/-- The place of a slice's cell. -/
def elemAddr (A : Option Addr) (q : Nat) : Option Addr := A.map fun a => ⟨a.block, a.off + q, none⟩

/-- The cells that lie behind a slice. -/
def Cells (w : World) (A : Option Addr) (xs : List Value) : Prop := ∀ q, q < xs.length → ∃ b o, A = some ⟨b, o, none⟩ ∧ w.cell? ⟨b, o + q, none⟩ = xs[q]?

theorem Cells.nil (w : World) (A : Option Addr) : Cells w A [] := fun q h => absurd h (Nat.not_lt_zero q)

theorem Cells.below {w w' : World} {A : Option Addr} {xs : List Value} (h : Cells w A xs) (hb : Below w.heap.size w w') : Cells w' A xs := by
  intro q hq
  obtain ⟨b, o, hA, hc⟩ := h q hq
  refine ⟨b, o, hA, ?_⟩
  rw [List.getElem?_eq_getElem hq] at hc ⊢
  exact (hb.cell (World.block_lt_of_cell? w _ hc)).trans hc

theorem row_cells {w : World} {base : Nat} {A : Option Addr} {cap : Nat} {e : TypeId} {size n : Nat} {xs : List Value} (h : w.ownsRow base e size (.slice A n cap) n xs) : Cells w A xs ∧ n ≤ cap := by
  obtain ⟨h1, h2⟩ := h
  rcases h2 with ⟨hv, rfl⟩ | ⟨g, cap', cur, hv, hb, hg, hc, hm, hs, ht⟩
  · have : xs = [] := List.eq_nil_of_length_eq_zero (by omega)
    subst this
    exact ⟨Cells.nil _ _, Nat.zero_le _⟩
  · obtain ⟨rfl, _, rfl⟩ := Value.slice.inj hv
    refine ⟨fun q hq => ⟨g, 0, rfl, ?_⟩, hc⟩
    rw [← ht, Nat.zero_add, List.getElem?_take_of_lt (by omega)]
    simp [World.cell?, hg]

/-- What lies behind a slice of the caller's, or of the call's own. -/
theorem cells_old {w : World} (s : Sat w0 H w) {A : Option Addr} {xs : List Value} (h : Cells w0 A xs) : Cells w A xs := h.below s.below
theorem cells_row {w : World} (s : Sat w0 H w) {j : Nat} {A : Option Addr} {cap : Nat} {e : TypeId} {size n : Nat} {xs : List Value} (hH : H[j]? = some (.row A cap e size n xs)) : Cells w A xs :=
  (row_cells (s.mem j _ hH)).1
theorem cells_blk {w : World} (s : Sat w0 H w) {j g off : Nat} {c : Array Value} {t : TypeId} {fr : Nat × Nat} {xs : List Value} (hH : H[j]? = some (.blk g (.cells c t fr))) (hx : ∀ q, q < xs.length → c[off + q]? = xs[q]?) : Cells w (some ⟨g, off, none⟩) xs := by
  intro q hq
  refine ⟨g, off, rfl, ?_⟩
  have h1 := hx q hq
  rw [List.getElem?_eq_getElem hq] at h1 ⊢
  exact sat_cell s hH h1

/-- Known, whatever the world. -/
def Know (w0 : World) (H : Hp) (A : Option Addr) (xs : List Value) : Prop := ∀ w, Sat w0 H w → Cells w A xs
theorem know_old {A : Option Addr} {xs : List Value} (h : Cells w0 A xs) : Know w0 H A xs := fun _ s => cells_old s h
theorem know_row {j : Nat} {A : Option Addr} {cap : Nat} {e : TypeId} {size n : Nat} {xs : List Value} (hH : H[j]? = some (.row A cap e size n xs)) : Know w0 H A xs := fun _ s => cells_row s hH
theorem know_blk {j g off : Nat} {c : Array Value} {t : TypeId} {fr : Nat × Nat} {xs : List Value} (hH : H[j]? = some (.blk g (.cells c t fr))) (hx : ∀ q, q < xs.length → c[off + q]? = xs[q]?) : Know w0 H (some ⟨g, off, none⟩) xs := fun _ s => cells_blk s hH hx
theorem know_nil {A : Option Addr} : Know w0 H A [] := fun w _ => Cells.nil w A

theorem rd_len {t e : TypeId} {ty : TypeId} {A : Option Addr} {n c : Nat} (ht : P.underlying t = some (.slice e)) : Rdo P w0 H (Builtin.len_ #[t] ty #[.slice A n c]) (.int .i64 (n : Nat)) := by
  intro w _
  simp [Builtin.len_, run_underlying ht, goInt]
theorem rd_lenStr {t : TypeId} {ty : TypeId} {s : ByteArray} {n : Nat} (ht : P.underlying t = some .string) (hn : s.size = n) : Rdo P w0 H (Builtin.len_ #[t] ty #[.string s]) (.int .i64 (n : Nat)) := by
  intro w _
  subst hn
  simp [Builtin.len_, run_underlying ht, goInt]

theorem some_of_cells {w : World} {A : Option Addr} {xs : List Value} (h : Cells w A xs) (q : Nat) (hq : q < xs.length) : ∃ b o, A = some ⟨b, o, none⟩ := by
  obtain ⟨b, o, hA, _⟩ := h q hq
  exact ⟨b, o, hA⟩

theorem elemAddr_add (A : Option Addr) (a b : Nat) : elemAddr (elemAddr A a) b = elemAddr A (a + b) := by
  cases A <;> simp [elemAddr, Nat.add_assoc]

/-- The place of a slice's element. -/
theorem rd_elem {T e : TypeId} {A : Option Addr} {xs : List Value} {len cap n : Nat} {K : IntKind} {q : Int} {m o : Nat} (hk : Know w0 H A xs) (hT : P.underlying T = some (.slice e)) (hn : ∀ w, (sizeOf e).run P w = .ok n w) (hq : q = (m : Int)) (hm : m < len) (hx : m * n < xs.length) (ho : m * n = o) :
    Rdo P w0 H (Instr.indexAt T (.slice A len cap) (.int K q)) (.pointer (elemAddr A o)) := by
  intro w s
  obtain ⟨b, off, rfl⟩ := some_of_cells (hk w s) _ hx
  exact rd_indexAddrS hT hq hm hn (by rw [ho]) w s

/-- A field of what lies there. -/
theorem rd_elemField {T : TypeId} {A : Option Addr} {xs : List Value} {f q o n ft fo : Nat} {fs : Array Field} (hk : Know w0 H A xs) (hq : q < xs.length) (hT : P.underlying T = some (.struct fs)) (hf : (fs[f]?).map (fun F => (F.type, F.offset)) = some (ft, fo)) (hn : ∀ w, (sizeOf ft).run P w = .ok n w) (h0 : Nat.blt 0 n = true) (ho : q + fo = o) :
    Rdo P w0 H (Instr.fieldAt T (.pointer (elemAddr A q)) f) (.pointer (elemAddr A o)) := by
  intro w s
  obtain ⟨b, off, rfl⟩ := some_of_cells (hk w s) _ hq
  subst ho
  have := rd_fieldAddr (P := P) (w0 := w0) (H := H) (g := b) (off := off + q) hT hf hn h0 rfl w s
  simpa [elemAddr, Nat.add_assoc] using this

theorem rd_elemLoad {T : TypeId} {A : Option Addr} {xs : List Value} {q : Nat} {v : Value} (hk : Know w0 H A xs) (ha : ∀ w, (isAgg T).run P w = .ok false w) (hv : xs[q]? = some v) : Rdo P w0 H (Instr.loadAt T (.pointer (elemAddr A q))) v := by
  intro w s
  have hq : q < xs.length := (List.getElem?_eq_some_iff.1 hv).1
  obtain ⟨b, off, rfl, hc⟩ := hk w s q hq
  rw [hv] at hc
  simp [Instr.loadAt, elemAddr, Instr.sureAddr, loadVar, ha, load, Sem.run, hc]

theorem rd_elemLoadA {T : TypeId} {A : Option Addr} {xs : List Value} {q n : Nat} {u : Array Value} (hk : Know w0 H A xs) (ha : ∀ w, (isAgg T).run P w = .ok true w) (hn : ∀ w, (sizeOf T).run P w = .ok n w) (h0 : Nat.blt 0 n = true) (hv : (xs.drop q).take n = u.toList) (hl : q + n ≤ xs.length) : Rdo P w0 H (Instr.loadAt T (.pointer (elemAddr A q))) (.agg u) := by
  intro w s
  have h0' : 0 < n := by simpa [Nat.blt_eq] using h0
  obtain ⟨b, off, rfl⟩ := some_of_cells (hk w s) q (by omega)
  have hb : ∀ j (v : Value), u[j]? = some v → w.cell? ⟨b, off + q + j, none⟩ = some v := by
    intro j v hj
    rw [← Array.getElem?_toList, ← hv, List.getElem?_take] at hj
    split at hj
    · rw [List.getElem?_drop] at hj
      obtain ⟨b', o', hA, hc⟩ := hk w s (q + j) (by omega)
      obtain ⟨rfl, rfl⟩ : b = b' ∧ off = o' := by simpa using hA
      rw [Nat.add_assoc, hc, hj]
    · cases hj
  have hus : u.size = n := by rw [← Array.length_toList, ← hv]; simp; omega
  have key : ∀ (m j : Nat) (acc : Array Value), j + m ≤ u.size → (loadCellsFrom ⟨b, off + q, none⟩ j m acc).run P w = .ok (acc ++ u.extract j (j + m)) w := by
    intro m
    induction m with
    | zero => intro j acc _; simp [loadCellsFrom]; omega
    | succ m ih =>
      intro j acc h
      have hv : w.cell? ((⟨b, off + q, none⟩ : Addr).add j) = some (u[j]'(by omega)) := by
        rw [add_zero_off]
        exact hb _ _ (Array.getElem?_eq_getElem _)
      simp only [loadCellsFrom, load, Sem.run_bind, Sem.run, hv, Result.andThen_ok]
      rw [ih (j + 1) _ (by omega)]
      congr 1
      apply Array.ext
      · simp; omega
      · intro p h1 h2
        simp only [Array.getElem_append, Array.size_push, Array.getElem_push, Array.getElem_extract]
        split
        · split
          · rfl
          · congr 1; omega
        · split
          · omega
          · congr 1; omega
  have := key n 0 #[] (by omega)
  simp only [Nat.zero_add, Array.empty_append] at this
  rw [show u.extract 0 n = u by rw [← hus]; simp] at this
  simp [Instr.loadAt, elemAddr, Instr.sureAddr, loadVar, ha, hn, loadCells, this]

/-- A part of a slice. -/
theorem rd_subslice {T e : TypeId} {A : Option Addr} {len cap l h n : Nat} {lo hi : Option Value} (hT : P.underlying T = some (.slice e)) (hn : ∀ w, (sizeOf e).run P w = .ok n w) (hl : lo = some (.int .i64 l) ∨ (lo = none ∧ l = 0)) (hh : hi = some (.int .i64 h) ∨ (hi = none ∧ h = len)) (h1 : l ≤ h) (h2 : h ≤ cap) (hA : ∀ w, Sat w0 H w → ∀ a, A = some a → a.spot = none) :
    Rdo P w0 H (Instr.sliceAt T (.slice A len cap) lo hi none) (.slice (if cap = l then A else elemAddr A (l * n)) (h - l) (cap - l)) := by
  intro w s
  have hA := hA w s
  have e1 : ∀ q, A.map (fun a => a.add q) = elemAddr A q := by
    intro q
    cases A with
    | none => rfl
    | some a =>
      obtain ⟨b, o, sp⟩ := a
      have := hA _ rfl
      simp only at this
      subst this
      simp [elemAddr, add_zero_off]
  rcases hl with rfl | ⟨rfl, rfl⟩ <;> rcases hh with rfl | ⟨rfl, rfl⟩
  all_goals simp [Instr.sliceAt, Instr.slice, run_underlying hT, Instr.sliceBounds, run_sliceBound, h1, h2, hn, e1]

/-! ### Rows of the call's own -/

/-- A slice that is nil may be taken for a row. -/
theorem run_nilrow {e : TypeId} {size : Nat} (h : Run P fn w0 k ρ (.row none 0 e size 0 [] :: H) R) : Run P fn w0 k ρ H R := by
  intro a w h1 h2 h3 h4
  refine h a w h1 h2 h3 ⟨h4.below, ?_, ?_⟩
  · intro i x hx
    cases i with
    | zero => simp at hx; subst hx; exact World.ownsRow_nil _ _ _ _
    | succ i => exact h4.mem i x (by simpa using hx)
  · intro i j x y hij hx hy g hg
    cases i with
    | zero => simp at hx; subst hx; simp [HI.foot] at hg
    | succ i =>
      cases j with
      | zero => simp at hy; subst hy; simp [HI.foot]
      | succ j => exact h4.sep i j x y (by omega) (by simpa using hx) (by simpa using hy) g hg

theorem Sat.swap {w : World} {i : Nat} {x y : HI} (s : Sat w0 H w) (hi : H[i]? = some x) (hy : y.holds w0.heap.size w) (hf : y.foot = x.foot) : Sat w0 (H.set i y) w := by
  have get : ∀ (m : Nat) (v : HI), (H.set i y)[m]? = some v → (m = i ∧ v = y) ∨ (m ≠ i ∧ H[m]? = some v) := by
    intro m v hv
    by_cases hmi : i = m
    · subst hmi
      rw [List.getElem?_set] at hv
      simp only [if_true] at hv
      split at hv
      · simp at hv; exact .inl ⟨rfl, hv.symm⟩
      · cases hv
    · rw [List.getElem?_set_ne hmi] at hv; exact .inr ⟨fun e => hmi e.symm, hv⟩
  refine ⟨s.below, fun j z hz => ?_, fun j l z u hjl hz hu g hg => ?_⟩
  · rcases get j z hz with ⟨rfl, rfl⟩ | ⟨_, hz⟩
    · exact hy
    · exact s.mem j z hz
  · rcases get j z hz with ⟨rfl, rfl⟩ | ⟨hj, hz'⟩ <;> rcases get l u hu with ⟨rfl, rfl⟩ | ⟨hl, hu'⟩
    · exact absurd rfl hjl
    · exact s.sep _ l x u hjl hi hu' g (hf ▸ hg)
    · intro h2; exact s.sep j _ z x hjl hz' hi g hg (hf ▸ h2)
    · exact s.sep j l z u hjl hz' hu' g hg

/-- A row that has grown. -/
theorem Sat.grownRow {w w' : World} {j n n' cap cap' : Nat} {A A' : Option Addr} {e : TypeId} {size : Nat} {xs xs' : List Value} (s : Sat w0 H w) (hH : H[j]? = some (.row A cap e size n xs)) (hg : w.grownBy w' (A.map (·.block)))
    (hown : w'.ownsRow w0.heap.size e size (.slice A' n' cap') n' xs') (hwh : A'.map (·.block) = A.map (·.block) ∨ A'.map (·.block) = some w.heap.size) : Sat w0 (H.set j (.row A' cap' e size n' xs')) w' := by
  have hrow := s.mem j _ hH
  have old : ∀ k, some k = A.map (·.block) → w0.heap.size ≤ k := fun k hk => (HI.holds_lt hrow (x := .row A cap e size n xs) hk.symm).1
  have get : ∀ (m : Nat) (v : HI), (H.set j (.row A' cap' e size n' xs'))[m]? = some v → (m = j ∧ v = .row A' cap' e size n' xs') ∨ (m ≠ j ∧ H[m]? = some v) := by
    intro m v hv
    by_cases hmi : j = m
    · subst hmi
      rw [List.getElem?_set] at hv
      simp only [if_true] at hv
      split at hv
      · simp at hv; exact .inl ⟨rfl, hv.symm⟩
      · cases hv
    · rw [List.getElem?_set_ne hmi] at hv; exact .inr ⟨fun e => hmi e.symm, hv⟩
  have far : ∀ (m : Nat) (v : HI), m ≠ j → H[m]? = some v → ∀ k, v.foot = some k → A'.map (·.block) ≠ some k := by
    intro m v hm hv k hk h2
    rcases hwh with h3 | h3
    · exact s.sep m j v _ hm hv hH k hk (h3.symm.trans h2)
    · rw [h3] at h2
      have := (HI.holds_lt (s.mem m v hv) hk).2
      have := Option.some.inj h2
      omega
  refine ⟨s.below.trans ⟨hg.os, hg.tape, hg.output, hg.size, fun k hk => hg.block k (Nat.lt_of_lt_of_le hk s.below.size) (fun e => by have := old k e; omega)⟩, ?_, ?_⟩
  · intro m v hv
    rcases get m v hv with ⟨rfl, rfl⟩ | ⟨hm, hv⟩
    · exact hown
    · have hh := s.mem m v hv
      refine HI.holds_kept hh hg.size fun k hk => hg.block k (HI.holds_lt hh hk).2 fun e => ?_
      exact s.sep m j v _ hm hv hH k hk e.symm
  · intro m l z u hml hz hu k hk h2
    rcases get m z hz with ⟨rfl, rfl⟩ | ⟨hm, hz'⟩ <;> rcases get l u hu with ⟨rfl, rfl⟩ | ⟨hl, hu'⟩
    · exact hml rfl
    · exact far l u hl hu' k h2 hk
    · exact far m z hm hz' k hk h2
    · exact s.sep m l z u hml hz' hu' k hk h2

/-- A block that is known whole may be taken for a row. -/
theorem run_blkrow {j g : Nat} {c : Array Value} {e : TypeId} {size n : Nat} {xs : List Value} (hH : H[j]? = some (.blk g (.cells c e))) (hc : c.toList = xs) (hn : xs.length = n * size) (hm : n ≤ maxLen)
    (h : Run P fn w0 k ρ (H.set j (.row (some ⟨g, 0, none⟩) n e size n xs)) R) : Run P fn w0 k ρ H R := by
  intro a w h1 h2 h3 h4
  have hm' := h4.mem j _ hH
  refine h a w h1 h2 h3 (h4.swap hH ⟨hn, .inr ⟨g, n, c, rfl, hm'.1, hm'.2, Nat.le_refl _, hm, ?_, ?_⟩⟩ rfl)
  · rw [← Array.length_toList, hc, hn]
  · rw [hc, ← hn, List.take_length]

theorem slice_of_row {w : World} {base n : Nat} {e : TypeId} {size : Nat} {v : Value} {xs : List Value} (h : w.ownsRow base e size v n xs) : ∃ A c, v = .slice A n c ∧ v.ownBlock = A.map (·.block) := by
  rcases h.2 with ⟨rfl, rfl⟩ | ⟨g, cap, cur, rfl, _⟩
  · exact ⟨none, 0, rfl, rfl⟩
  · exact ⟨_, _, rfl, rfl⟩

/-- Where a row lies behind an append: where it lay, or in new memory. -/
theorem append_where {w w' : World} {t ty e : TypeId} {ti : TypeInfo} {z : Value} {size bytes base : Nat} {n m cap c : Nat} {A : Option Addr} {a : Addr} {xs news : List Value} {v' : Value}
    (ht : P.underlying t = some (.slice e)) (hi : P.info? e = some ti) (hz : ti.zero = some z) (hsize : ti.size = size) (hby : ti.bytes = bytes)
    (hown : w.ownsRow base e size (.slice A n cap) n xs) (hl : news.length = m * size) (hnews : ∀ q u, news[q]? = some u → w.cell? (a.add q) = some u) (h1 : ∀ u ∈ news, u.oneCell' = true) (h63 : n + m ≤ maxLen) (hbytes : (n + m) * bytes ≤ 140737488355328)
    (hr : (Builtin.append_ #[t, t] ty #[.slice A n cap, .slice (some a) m c]).run P w = .ok v' w') : v'.ownBlock = A.map (·.block) ∨ v'.ownBlock = some w.heap.size := by
  subst hsize hby
  simp only [maxLen] at h63
  rcases hown.2 with ⟨hv, rfl⟩ | ⟨g, cap', cur, hv, hbg, hg, hnc, hcm, hcs, htake⟩
  · obtain ⟨rfl, _, rfl⟩ := Value.slice.inj hv
    by_cases hm : m = 0
    · subst hm
      left
      have : (Builtin.append_ #[t, t] ty #[.slice none 0 0, .slice (some a) 0 c]).run P w = .ok (.slice none 0 0) w := by
        simp [Builtin.append_, run_underlying ht, sizeOf, typeInfo, hi, Builtin.lenOf, Builtin.firstCells, loadCells, loadCellsFrom]
      rw [this] at hr
      injection hr with h1 h2
      subst h1
      rfl
    · right
      rw [run_append_nil (P := P) w t ty e ti z ht hi hz a m c news hl hnews (by omega) (by omega) (by have hb := hbytes; simp only [Nat.zero_add] at hb; omega)] at hr
      injection hr with h1 h2
      subst h1
      rfl
  · obtain ⟨rfl, _, rfl⟩ := Value.slice.inj hv
    by_cases hroom : n + m ≤ cap
    · left
      have hfit : n * ti.size + news.length ≤ cur.size := by rw [hl, hcs, ← Nat.add_mul]; exact Nat.mul_le_mul_right _ hroom
      rw [run_append_room (P := P) w t ty e ti ht hi g n cap cur hg a m c news hl hnews h1 hroom hfit] at hr
      injection hr with h1 h2
      subst h1
      rfl
    · right
      have holds : ∀ j u, xs[j]? = some u → w.cell? ((⟨g, 0, none⟩ : Addr).add j) = some u := hown.cells (g := g) rfl
      rw [run_append_grow (P := P) w t ty e ti z ht hi hz ⟨g, 0, none⟩ n cap xs hown.1 holds a m c news hl hnews (by omega) (by omega) (growslice_fits (by omega) hbytes)] at hr
      injection hr with h1 h2
      subst h1
      rfl

/-- Elements appended to a row of the call's own. -/
theorem run_append {t ty e : TypeId} {ti : TypeInfo} {z : Value} {size bytes : Nat} {j n m cap c : Nat} {A : Option Addr} {a : Addr} {xs news : List Value} (h : step fn.ntmps ops i ρ = some (some d, vN (Builtin.append_ #[t, t] ty #[.slice A n cap, .slice (some a) m c])))
    (ht : P.underlying t = some (.slice e)) (hi : P.info? e = some ti) (hz : ti.zero = some z) (hsize : ti.size = size) (hby : ti.bytes = bytes) (hzs : z.cells.size = size) (hsz : Nat.blt 0 size = true)
    (hH : H[j]? = some (.row A cap e size n xs)) (hl : news.length = m * size) (hnews : Know w0 H (some a) news) (hp : a.spot = none) (h1 : news.all Value.oneCell' = true) (hbytes : (n + m) * bytes ≤ 140737488355328) (h63 : n + m ≤ maxLen)
    (hk : ∀ A' cap', n + m ≤ cap' → Run P fn w0 (.ops ops todo :: k) ((d, .slice A' (n + m) cap') :: ρ) (H.set j (.row A' cap' e size (n + m) (xs ++ news))) R) : Run P fn w0 (.ops ops (i :: todo) :: k) ρ H R := by
  refine run_val h fun w h4 => ?_
  have hrow := h4.mem j _ hH
  have hcells : ∀ q u, news[q]? = some u → w.cell? (a.add q) = some u := by
    intro q u hq
    obtain ⟨b, o, hA, hc⟩ := hnews w h4 q (List.getElem?_eq_some_iff.1 hq).1
    obtain rfl := Option.some.inj hA
    rw [add_zero_off, hc, hq]
  obtain ⟨v', w', hr, hown, hg, _⟩ := run_append_own (P := P) w w0.heap.size t ty e ti z size bytes ht hi hz hsize hby hzs (by simpa [Nat.blt_eq] using hsz) (.slice A n cap) n xs hrow a m c news hl hcells (List.all_eq_true.1 h1) h63 hbytes h4.below.size
  obtain ⟨A', cap', rfl, hob⟩ := slice_of_row hown
  have hwh := append_where ht hi hz hsize hby hrow hl hcells (List.all_eq_true.1 h1) h63 hbytes hr
  refine ⟨_, w', _, vN_run hr, ?_, hk A' cap' (row_cells hown).2⟩
  have hAb : (Value.slice A n cap).ownBlock = A.map (·.block) := by cases A <;> rfl
  rw [hAb] at hg
  rw [hob] at hwh
  exact h4.grownRow hH hg hown hwh
end
end Go.Proofs.YthapghhmeicbnaaDoor
