/- The machine's side, told once: shapes of values, and what memory holds of them. -/
import Derived.Test.YtlhbekiplnmolaaDoorProg
import Derived.WalkKit
import Derived.Below
import Derived.Calls
import Derived.Test.YtlhbekiplnmolaaDoorPlain
import Derived.Test.YtlhbekiplnmolaaDoorEGL
set_option linter.unusedVariables false
set_option linter.unusedSimpArgs false
namespace Go.Proofs.YtlhbekiplnmolaaDoor
open Go.RowKit

/-! ### Strings -/
abbrev Str := List UInt8
theorem bs_all (s : ByteArray) : s = bs s.data.toList := (bs_data s).symm

/-! ### Shapes -/
inductive Sh where
  | int (k : IntKind) | bool | str | unit
  | prod (a b : Sh) | st (s : Sh) | arr (n : Nat) (s : Sh) | lst (s : Sh) | sl (s : Sh) | nl (s : Sh) | ref | fn (a b : Sh) | any | np | oref
  deriving DecidableEq

@[reducible] def Sh.ty : Sh → Type
  | .int _ => Int
  | .bool => Bool
  | .str => Str
  | .unit => Unit
  | .prod a b => a.ty × b.ty
  | .st s => s.ty
  | .arr _ s => List s.ty
  | .lst s => List s.ty
  | .sl s => List s.ty
  | .nl _ => Unit
  | .ref => Nat
  | .fn a b => a.ty → Option b.ty
  | .any => Unit
  | .np => Unit
  | .oref => Nat

def Sh.dflt : (s : Sh) → s.ty
  | .int _ => (0 : Int)
  | .bool => false
  | .str => ([] : Str)
  | .unit => ()
  | .prod a b => (a.dflt, b.dflt)
  | .st s => s.dflt
  | .arr n s => List.replicate n s.dflt
  | .lst _ => []
  | .sl _ => []
  | .nl _ => ()
  | .ref => (0 : Nat)
  | .fn _ _ => fun _ => none
  | .any => ()
  | .np => ()
  | .oref => (0 : Nat)

def Sh.size : Sh → Nat
  | .unit => 0
  | .prod a b => a.size + b.size
  | .st s => s.size
  | .arr n s => n * s.size
  | .lst _ => 0
  | _ => 1

def Sh.agg : Sh → Bool
  | .st _ => true
  | .arr _ _ => true
  | _ => false

/-- No slices, no functions, no labels: told by its cells alone. -/
def Sh.flat : Sh → Bool
  | .int _ => true
  | .bool => true
  | .str => true
  | .unit => true
  | .prod a b => a.flat && b.flat
  | .st s => s.flat
  | .arr _ s => s.flat
  | .nl _ => true
  | .any => true
  | .np => true
  | _ => false

/-- No labels. -/
def Sh.pers : Sh → Bool
  | .ref => false
  | .oref => false
  | .prod a b => a.pers && b.pers
  | .st s => s.pers
  | .arr _ s => s.pers
  | .lst s => s.pers
  | .sl s => s.pers
  | .fn a b => a.pers && b.pers
  | _ => true

/-! ### What is frozen -/
abbrev Fz := Nat → Option (Array Value)
def Fz.le (M M' : Fz) : Prop := ∀ g c, M g = some c → M' g = some c
theorem Fz.le_refl (M : Fz) : M.le M := fun _ _ h => h
theorem Fz.le_trans {A B C : Fz} (h : A.le B) (k : B.le C) : A.le C := fun g c e => k g c (h g c e)
structure GL (M : Fz) : Prop where
  tab : ∀ p ∈ GLs, M p.1 = some p.2
  num : ∀ g ∈ GLi, ∃ (c : Array Value) (m : Int), M g = some c ∧ c[0]? = some (.int .i64 m)
theorem GL.mono {M M' : Fz} (h : GL M) (e : M.le M') : GL M' := ⟨fun p hp => e _ _ (h.tab p hp), fun g hg => let ⟨c, m, h, h2⟩ := h.num g hg; ⟨c, m, e _ _ h, h2⟩⟩
structure Over (M : Fz) (w : World) : Prop where
  cells : ∀ g c, M g = some c → ∃ t fr, w.heap[g]? = some (.cells c t fr)
  gl : GL M
instance {M : Fz} {w : World} : CoeFun (Over M w) fun _ => ∀ g c, M g = some c → ∃ t fr, w.heap[g]? = some (.cells c t fr) := ⟨Over.cells⟩

/-- The cells behind a frozen place. -/
def Cl (M : Fz) (A : Option Addr) (vs : List Value) : Prop := ∀ q, q < vs.length → ∃ b o c, A = some ⟨b, o, none⟩ ∧ M b = some c ∧ c[o + q]? = vs[q]?
theorem Cl.nil (M : Fz) (A : Option Addr) : Cl M A [] := fun q h => absurd h (Nat.not_lt_zero q)
theorem Cl.mono {M M' : Fz} {A : Option Addr} {vs : List Value} (h : Cl M A vs) (e : M.le M') : Cl M' A vs := fun q hq => by
  obtain ⟨b, o, c, h1, h2, h3⟩ := h q hq
  exact ⟨b, o, c, h1, e b c h2, h3⟩

def RepL {α : Type} (R : List Value → α → Prop) : List Value → List α → Prop
  | vs, [] => vs = []
  | vs, x :: xs => ∃ c r, vs = c ++ r ∧ R c x ∧ RepL R r xs

theorem RepL.mono {α : Type} {R R' : List Value → α → Prop} (h : ∀ c x, R c x → R' c x) : ∀ {vs : List Value} {xs : List α}, RepL R vs xs → RepL R' vs xs
  | vs, [], e => e
  | vs, x :: xs, ⟨c, r, e, h1, h2⟩ => ⟨c, r, e, h c x h1, h2.mono h⟩

def mkV (s : Sh) (cs : List Value) : Value := if s.agg then .agg cs.toArray else cs.headD undef

/-- A call of it enters its body. -/
def Enters (P : Program) (f : FuncId) : Prop := ∀ (args : Array Value) (w : World), (callFunc f args).run P w = .ok (.enter f args) w

/-- What an ending of a call shows. -/
def Gives (P : Program) (w : World) (M : Fz) (Rb : Fz → List Value → Prop) (b : Sh) : Ending → World → Prop := fun e w' =>
  ∃ M' cs, e = .returned (mkV b cs) ∧ Below w.heap.size w w' ∧ M.le M' ∧ (∀ g, g < w.heap.size → M' g = M g) ∧ Over M' w' ∧ Rb M' cs

def RepC (P : Program) (φ : Nat → Value) : (s : Sh) → Fz → List Value → s.ty → Prop
  | .int k, _, cs, x => cs = [.int k x] ∧ k.has x
  | .bool, _, cs, x => cs = [.bool x]
  | .str, _, cs, x => cs = [.string (bs x)] ∧ List.length x ≤ maxLen
  | .unit, _, cs, _ => cs = []
  | .prod a b, M, cs, x => ∃ c1 c2, cs = c1 ++ c2 ∧ RepC P φ a M c1 x.1 ∧ RepC P φ b M c2 x.2
  | .st s, M, cs, x => RepC P φ s M cs x
  | .arr n s, M, cs, x => List.length x = n ∧ RepL (RepC P φ s M) cs x
  | .lst s, M, cs, x => RepL (RepC P φ s M) cs x
  | .sl s, M, cs, x => ∃ A n cap vs, cs = [.slice A n cap] ∧ List.length x = n ∧ (n ≤ cap ∧ cap ≤ maxLen) ∧ Cl M A vs ∧ RepL (RepC P φ s M) vs x
  | .nl _, _, cs, _ => cs = [.slice none 0 0]
  | .ref, _, cs, x => cs = [φ x] ∧ (φ x).oneCell' = true
  | .fn a b, M, cs, p => ∃ f cap, cs = [.func (.func f) #[] cap] ∧ Enters P f ∧ ∀ (w : World) (M' : Fz), M.le M' → Over M' w → ∀ ca x, RepC P φ a M' ca x → ∀ y, p x = some y →
      Calls P f (#[mkV a ca] ++ cap) w (Gives P w M' (fun M2 cs => RepC P φ b M2 cs y) b)
  | .any, _, cs, _ => ∃ v : Value, v.oneCell' = true ∧ cs = [v]
  | .np, _, cs, _ => cs = [.pointer none]
  | .oref, _, cs, x => ∃ v : Value, v.oneCell' = true ∧ cs = [v] ∧ (v = .pointer none ∨ v = φ x)

theorem RepL_len {α : Type} {R : List Value → α → Prop} {k : Nat} (h : ∀ c x, R c x → c.length = k) : ∀ {vs : List Value} {xs : List α}, RepL R vs xs → vs.length = xs.length * k
  | vs, [], e => by cases e; simp
  | vs, x :: xs, ⟨c, r, e, h1, h2⟩ => by
    have := RepL_len h h2
    subst e
    rw [List.length_append, h c x h1, this, List.length_cons, Nat.succ_mul]
    omega

/-- Nothing of dynamic length inside, and no labels behind what is frozen. -/
def Sh.fixed : Sh → Bool
  | .lst _ => false
  | .prod a b => a.fixed && b.fixed
  | .st s => s.fixed
  | .arr _ s => s.fixed
  | .sl s => s.fixed && s.pers
  | .fn a b => a.fixed && b.fixed && (a.pers && b.pers)
  | _ => true

theorem rep_len {P : Program} {φ : Nat → Value} {M : Fz} : ∀ {s : Sh} {cs : List Value} {x : s.ty}, s.fixed = true → RepC P φ s M cs x → cs.length = s.size := by
  intro s
  induction s with
  | int k => intro cs x _ h; simp only [RepC] at h; simp [h.1, Sh.size]
  | bool => intro cs x _ h; simp only [RepC] at h; simp [h, Sh.size]
  | str => intro cs x _ h; simp only [RepC] at h; simp [h.1, Sh.size]
  | unit => intro cs x _ h; simp only [RepC] at h; simp [h, Sh.size]
  | prod a b iha ihb =>
    intro cs x hf h
    simp only [Sh.fixed, Bool.and_eq_true] at hf
    obtain ⟨c1, c2, rfl, h1, h2⟩ := h
    simp [iha hf.1 h1, ihb hf.2 h2, Sh.size]
  | st s ih => intro cs x hf h; exact ih hf h
  | arr n s ih =>
    intro cs x hf h
    obtain ⟨h1, h2⟩ := h
    rw [RepL_len (fun c y hc => ih hf hc) h2, h1]
    rfl
  | lst s ih => intro cs x hf; simp [Sh.fixed] at hf
  | sl s ih => intro cs x _ h; obtain ⟨A, n, cap, vs, rfl, _⟩ := h; rfl
  | nl s ih => intro cs x _ h; simp only [RepC] at h; simp [h, Sh.size]
  | ref => intro cs x _ h; simp only [RepC] at h; simp [h.1, Sh.size]
  | fn a b iha ihb => intro cs x _ h; obtain ⟨f, cap, rfl, _⟩ := h; rfl
  | any => intro cs x _ h; obtain ⟨v, _, rfl⟩ := h; rfl
  | np => intro cs x _ h; simp only [RepC] at h; subst h; rfl
  | oref => intro cs x _ h; obtain ⟨v, _, rfl, _⟩ := h; rfl

theorem RepL_one {α : Type} {R : List Value → α → Prop} (h : ∀ c x, R c x → ∀ v ∈ c, v.oneCell' = true) : ∀ {vs : List Value} {xs : List α}, RepL R vs xs → ∀ v ∈ vs, v.oneCell' = true
  | vs, [], e, v, hv => by cases e; cases hv
  | vs, x :: xs, ⟨c, r, e, h1, h2⟩, v, hv => by
    subst e
    rcases List.mem_append.1 hv with hv | hv
    · exact h c x h1 v hv
    · exact RepL_one h h2 v hv

theorem rep_one {P : Program} {φ : Nat → Value} {M : Fz} : ∀ {s : Sh} {cs : List Value} {x : s.ty}, RepC P φ s M cs x → ∀ v ∈ cs, v.oneCell' = true := by
  intro s
  induction s with
  | int k => intro cs x h v hv; simp only [RepC] at h; obtain ⟨rfl, _⟩ := h; simp at hv; subst hv; rfl
  | bool => intro cs x h v hv; simp only [RepC] at h; subst h; simp at hv; subst hv; rfl
  | str => intro cs x h v hv; simp only [RepC] at h; obtain ⟨rfl, _⟩ := h; simp at hv; subst hv; rfl
  | unit => intro cs x h v hv; simp only [RepC] at h; subst h; cases hv
  | prod a b iha ihb =>
    intro cs x h v hv
    obtain ⟨c1, c2, rfl, h1, h2⟩ := h
    rcases List.mem_append.1 hv with hv | hv
    · exact iha h1 v hv
    · exact ihb h2 v hv
  | st s ih => intro cs x h; exact ih h
  | arr n s ih => intro cs x h; exact RepL_one (fun c y hc => ih hc) h.2
  | lst s ih => intro cs x h; exact RepL_one (fun c y hc => ih hc) h
  | sl s ih => intro cs x h v hv; obtain ⟨A, n, cap, vs, rfl, _⟩ := h; simp at hv; subst hv; rfl
  | nl s ih => intro cs x h v hv; simp only [RepC] at h; subst h; simp at hv; subst hv; rfl
  | ref => intro cs x h v hv; simp only [RepC] at h; obtain ⟨rfl, h2⟩ := h; simp at hv; subst hv; exact h2
  | fn a b iha ihb => intro cs x h v hv; obtain ⟨f, cap, rfl, _⟩ := h; simp at hv; subst hv; rfl
  | any => intro cs x h v hv; obtain ⟨u, hu, rfl⟩ := h; simp at hv; subst hv; exact hu
  | np => intro cs x h v hv; simp only [RepC] at h; subst h; simp at hv; subst hv; rfl
  | oref => intro cs x h v hv; obtain ⟨u, hu, rfl, _⟩ := h; simp at hv; subst hv; exact hu

/-- What is told of frozen memory stays. -/
theorem rep_mono {P : Program} {φ : Nat → Value} : ∀ {s : Sh} {M M' : Fz} {cs : List Value} {x : s.ty}, M.le M' → RepC P φ s M cs x → RepC P φ s M' cs x := by
  intro s
  induction s with
  | prod a b iha ihb => intro M M' cs x e h; obtain ⟨c1, c2, rfl, h1, h2⟩ := h; exact ⟨c1, c2, rfl, iha e h1, ihb e h2⟩
  | st s ih => intro M M' cs x e h; exact ih e h
  | arr n s ih => intro M M' cs x e h; exact ⟨h.1, h.2.mono fun c y => ih e⟩
  | lst s ih => intro M M' cs x e h; exact RepL.mono (fun c y => ih e) h
  | sl s ih => intro M M' cs x e h; obtain ⟨A, n, cap, vs, h1, h2, h3, h4, h5⟩ := h; exact ⟨A, n, cap, vs, h1, h2, h3, h4.mono e, h5.mono fun c y => ih e⟩
  | fn a b iha ihb => intro M M' cs x e h; obtain ⟨f, cap, h1, h0, h2⟩ := h; exact ⟨f, cap, h1, h0, fun w M2 e2 => h2 w M2 (Fz.le_trans e e2)⟩
  | _ => intro M M' cs x _ h; exact h

/-- What has no labels asks nothing of them. -/
theorem rep_pers {P : Program} {φ φ' : Nat → Value} : ∀ {s : Sh} {M : Fz} {cs : List Value} {x : s.ty}, s.pers = true → RepC P φ s M cs x → RepC P φ' s M cs x := by
  intro s
  induction s generalizing φ φ' with
  | prod a b iha ihb =>
    intro M cs x hp h
    simp only [Sh.pers, Bool.and_eq_true] at hp
    obtain ⟨c1, c2, rfl, h1, h2⟩ := h; exact ⟨c1, c2, rfl, iha hp.1 h1, ihb hp.2 h2⟩
  | st s ih => intro M cs x hp h; exact ih hp h
  | arr n s ih => intro M cs x hp h; exact ⟨h.1, h.2.mono fun c y => ih hp⟩
  | lst s ih => intro M cs x hp h; exact RepL.mono (fun c y => ih hp) h
  | sl s ih => intro M cs x hp h; obtain ⟨A, n, cap, vs, h1, h2, h3, h4, h5⟩ := h; exact ⟨A, n, cap, vs, h1, h2, h3, h4, h5.mono fun c y => ih hp⟩
  | fn a b iha ihb =>
    intro M cs x hp h
    simp only [Sh.pers, Bool.and_eq_true] at hp
    obtain ⟨f, cap, h1, h0, h2⟩ := h
    refine ⟨f, cap, h1, h0, fun w M' e ho ca x hx y hy => (h2 w M' e ho ca x (iha hp.1 hx) y hy).mono ?_⟩
    rintro e w' ⟨M2, cs, h3, h4, h5, h6, h7, h8⟩
    exact ⟨M2, cs, h3, h4, h5, h6, h7, ihb hp.2 h8⟩
  | ref => intro M cs x hp; simp [Sh.pers] at hp
  | oref => intro M cs x hp; simp [Sh.pers] at hp
  | _ => intro M cs x _ h; exact h

/-- What is flat asks nothing of frozen memory. -/
theorem rep_flat {P : Program} {φ : Nat → Value} : ∀ {s : Sh} {M M' : Fz} {cs : List Value} {x : s.ty}, s.flat = true → RepC P φ s M cs x → RepC P φ s M' cs x := by
  intro s
  induction s with
  | prod a b iha ihb =>
    intro M M' cs x hp h
    simp only [Sh.flat, Bool.and_eq_true] at hp
    obtain ⟨c1, c2, rfl, h1, h2⟩ := h; exact ⟨c1, c2, rfl, iha hp.1 h1, ihb hp.2 h2⟩
  | st s ih => intro M M' cs x hp h; exact ih hp h
  | arr n s ih => intro M M' cs x hp h; exact ⟨h.1, h.2.mono fun c y => ih hp⟩
  | lst s ih => intro M M' cs x hp; simp [Sh.flat] at hp
  | sl s ih => intro M M' cs x hp; simp [Sh.flat] at hp
  | fn a b iha ihb => intro M M' cs x hp; simp [Sh.flat] at hp
  | ref => intro M M' cs x hp; simp [Sh.flat] at hp
  | oref => intro M M' cs x hp; simp [Sh.flat] at hp
  | _ => intro M M' cs x _ h; exact h

/-! ### Paths -/
inductive Step where
  | u | l | r | i (k : Nat)
abbrev Path := List Step
abbrev TV := Σ s : Sh, s.ty

def getP : (s : Sh) → s.ty → Path → Option TV
  | s, x, [] => some ⟨s, x⟩
  | .st s, x, .u :: p => getP s x p
  | .prod a _, x, .l :: p => getP a x.1 p
  | .prod _ b, x, .r :: p => getP b x.2 p
  | .arr _ s, x, .i k :: p => getP s (List.getD x k s.dflt) p
  | .lst s, x, .i k :: p => getP s (List.getD x k s.dflt) p
  | _, _, _ :: _ => none

def setP : (s : Sh) → s.ty → Path → TV → Option TV
  | _, _, [], v => some v
  | .st s, x, .u :: p, v => (setP s x p v).map fun r => ⟨.st r.1, r.2⟩
  | .prod a b, x, .l :: p, v => (setP a x.1 p v).map fun r => ⟨.prod r.1 b, (r.2, x.2)⟩
  | .prod a b, x, .r :: p, v => (setP b x.2 p v).map fun r => ⟨.prod a r.1, (x.1, r.2)⟩
  | .arr n s, x, .i k :: p, v => match setP s (List.getD x k s.dflt) p v with
    | some r => if h : r.1 = s then some ⟨.arr n s, List.set x k (h ▸ r.2)⟩ else none
    | none => none
  | .lst s, x, .i k :: p, v => match setP s (List.getD x k s.dflt) p v with
    | some r => if h : r.1 = s then some ⟨.lst s, List.set x k (h ▸ r.2)⟩ else none
    | none => none
  | _, _, _ :: _, _ => none

/-- The indices lie within. -/
def okP : (s : Sh) → s.ty → Path → Prop
  | _, _, [] => True
  | .st s, x, .u :: p => okP s x p
  | .prod a _, x, .l :: p => okP a x.1 p
  | .prod _ b, x, .r :: p => okP b x.2 p
  | .arr n s, x, .i k :: p => k < n ∧ okP s (List.getD x k s.dflt) p
  | .lst s, x, .i k :: p => k < List.length x ∧ okP s (List.getD x k s.dflt) p
  | _, _, _ :: _ => False

def offP : Sh → Path → Nat
  | .st s, .u :: p => offP s p
  | .prod a _, .l :: p => offP a p
  | .prod a b, .r :: p => a.size + offP b p
  | .arr _ s, .i k :: p => k * s.size + offP s p
  | .lst s, .i k :: p => k * s.size + offP s p
  | _, _ => 0
end Go.Proofs.YtlhbekiplnmolaaDoor
