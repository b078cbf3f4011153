/- The machine's side, told once: equality, texts, conversions, parts of slices. -/
import Derived.Test.YtlhbekiplnmolaaDoorE6
set_option linter.unusedVariables false
set_option linter.unusedSimpArgs false
namespace Go.Proofs.YtlhbekiplnmolaaDoor
open Go.RowKit

/-! ### Equality of plain values -/
def Sh.cmpB : Sh → Bool
  | .int _ => true
  | .bool => true
  | .str => true
  | .unit => true
  | .prod a b => a.cmpB && b.cmpB
  | .st s => s.cmpB
  | .arr _ s => s.cmpB
  | _ => false
def Sh.lks : Sh → List Lk
  | .int k => [.i k]
  | .bool => [.b]
  | .str => [.s]
  | .prod a b => a.lks ++ b.lks
  | .st s => s.lks
  | .arr n s => (List.replicate n s.lks).flatten
  | _ => []
def Sh.lits : (s : Sh) → s.ty → List Lit
  | .int k, x => [.int k x]
  | .bool, x => [.bool x]
  | .str, x => [.string x]
  | .prod a b, x => a.lits x.1 ++ b.lits x.2
  | .st s, x => s.lits x
  | .arr _ s, x => List.flatMap s.lits x
  | _, _ => []
def eqL {α : Type} (f : α → α → Bool) : List α → List α → Bool
  | [], [] => true
  | x :: l, y :: r => f x y && eqL f l r
  | _, _ => false
def Sh.eqb : (s : Sh) → s.ty → s.ty → Bool
  | .int _, x, y => (show Int from x) == (show Int from y)
  | .bool, x, y => (show Bool from x) == (show Bool from y)
  | .str, x, y => (show Str from x) == (show Str from y)
  | .prod a b, x, y => a.eqb x.1 y.1 && b.eqb x.2 y.2
  | .st s, x, y => s.eqb x y
  | .arr _ s, x, y => eqL s.eqb x y
  | _, _, _ => true

theorem eqL_iff {α : Type} {f : α → α → Bool} (h : ∀ x y, f x y = true ↔ x = y) : ∀ l r : List α, eqL f l r = true ↔ l = r
  | [], [] => by simp [eqL]
  | x :: l, [] => by simp [eqL]
  | [], y :: r => by simp [eqL]
  | x :: l, y :: r => by simp [eqL, h, eqL_iff h l r]
theorem eqb_iff : ∀ {s : Sh}, s.cmpB = true → ∀ x y : s.ty, s.eqb x y = true ↔ x = y := by
  intro s
  induction s with
  | int k => intro _ x y; simp [Sh.eqb]
  | bool => intro _ x y; simp [Sh.eqb]
  | str => intro _ x y; simp [Sh.eqb]
  | unit => intro _ x y; simp [Sh.eqb]
  | prod a b iha ihb =>
    intro h x y
    simp only [Sh.cmpB, Bool.and_eq_true] at h
    obtain ⟨x1, x2⟩ := x
    obtain ⟨y1, y2⟩ := y
    simp only [Sh.eqb, Bool.and_eq_true, iha h.1, ihb h.2, Prod.mk.injEq]
  | st s ih => intro h x y; exact ih h x y
  | arr n s ih => intro h x y; exact eqL_iff (ih h) x y
  | _ => intro h; simp [Sh.cmpB] at h

theorem lits_len {P : Program} {φ : Nat → Value} {M : Fz} : ∀ {s : Sh} {cs : List Value} {x : s.ty}, s.cmpB = true → RepC P φ s M cs x → (s.lits x).length = s.size := by
  intro s
  induction s with
  | int k => intro cs x _ _; rfl
  | bool => intro cs x _ _; rfl
  | str => intro cs x _ _; rfl
  | unit => intro cs x _ _; rfl
  | prod a b iha ihb =>
    intro cs x h hr
    simp only [Sh.cmpB, Bool.and_eq_true] at h
    obtain ⟨c1, c2, _, h1, h2⟩ := hr
    simp [Sh.lits, Sh.size, iha h.1 h1, ihb h.2 h2]
  | st s ih => intro cs x h hr; exact ih h hr
  | arr n s ih =>
    intro cs x h hr
    obtain ⟨hn, hr⟩ := hr
    have key : ∀ (l : List s.ty) (cs : List Value), RepL (RepC P φ s M) cs l → (List.flatMap s.lits l).length = l.length * s.size := by
      intro l
      induction l with
      | nil => intro cs _; simp
      | cons y l ihl =>
        intro cs hr
        obtain ⟨c, r, _, h1, h2⟩ := hr
        simp only [List.flatMap_cons, List.length_append, List.length_cons]
        rw [ih h h1, ihl _ h2, Nat.succ_mul, Nat.add_comm]
    show (List.flatMap s.lits x).length = n * s.size
    rw [key x cs hr, hn]
  | _ => intro cs x h; simp [Sh.cmpB] at h

theorem lits_inj {P : Program} {φ : Nat → Value} {M : Fz} : ∀ {s : Sh} {cs ds : List Value} {x y : s.ty}, s.cmpB = true → RepC P φ s M cs x → RepC P φ s M ds y → (s.lits x = s.lits y ↔ x = y) := by
  intro s
  induction s with
  | int k => intro cs ds x y _ _ _; simp [Sh.lits]
  | bool => intro cs ds x y _ _ _; simp [Sh.lits]
  | str => intro cs ds x y _ _ _; simp [Sh.lits]
  | unit => intro cs ds x y _ _ _; simp [Sh.lits]
  | prod a b iha ihb =>
    intro cs ds x y h hx hy
    simp only [Sh.cmpB, Bool.and_eq_true] at h
    obtain ⟨c1, c2, _, h1, h2⟩ := hx
    obtain ⟨d1, d2, _, g1, g2⟩ := hy
    obtain ⟨x1, x2⟩ := x
    obtain ⟨y1, y2⟩ := y
    constructor
    · intro e
      obtain ⟨e1, e2⟩ := List.append_inj e (by rw [lits_len h.1 h1, lits_len h.1 g1])
      exact Prod.ext ((iha h.1 h1 g1).1 e1) ((ihb h.2 h2 g2).1 e2)
    · intro e; rw [e]
  | st s ih => intro cs ds x y h hx hy; exact ih h hx hy
  | arr n s ih =>
    intro cs ds x y h hx hy
    obtain ⟨hn, hx⟩ := hx
    obtain ⟨hm, hy⟩ := hy
    have key : ∀ (l r : List s.ty) (cs ds : List Value), RepL (RepC P φ s M) cs l → RepL (RepC P φ s M) ds r → l.length = r.length → List.flatMap s.lits l = List.flatMap s.lits r → l = r := by
      intro l
      induction l with
      | nil => intro r cs ds _ _ hl _; exact (List.length_eq_zero_iff.1 hl.symm).symm
      | cons u l ihl =>
        intro r cs ds hx hy hl e
        cases r with
        | nil => simp at hl
        | cons v r =>
          obtain ⟨c, c', _, h1, h2⟩ := hx
          obtain ⟨d, d', _, g1, g2⟩ := hy
          simp only [List.flatMap_cons] at e
          obtain ⟨e1, e2⟩ := List.append_inj e (by rw [lits_len (s := s) h h1, lits_len (s := s) h g1])
          rw [(ih h h1 g1).1 e1, ihl r _ _ h2 g2 (by simpa using hl) e2]
    constructor
    · intro e; exact key x y cs ds hx hy (by rw [hn, hm]) e
    · intro e; rw [e]
  | _ => intro cs ds x y h; simp [Sh.cmpB] at h

theorem rep_fits {P : Program} {φ : Nat → Value} {M : Fz} : ∀ {s : Sh} {cs : List Value} {x : s.ty}, s.cmpB = true → RepC P φ s M cs x → fits s.lks cs = some (s.lits x) := by
  intro s
  induction s with
  | int k =>
    intro cs x _ h
    obtain ⟨rfl, h⟩ := h
    have : (Lit.int k x).wf = true := by simp only [Lit.wf, Bool.and_eq_true, decide_eq_true_eq]; exact h
    simp [Sh.lks, Sh.lits, fits, Lk.lit, this]
  | bool => intro cs x _ h; simp only [RepC] at h; subst h; simp [Sh.lks, Sh.lits, fits, Lk.lit]
  | str =>
    intro cs x _ h
    obtain ⟨rfl, h⟩ := h
    have : (bs x).size ≤ maxLen := by rw [bs_size]; exact h
    simp [Sh.lks, Sh.lits, fits, Lk.lit, this]
    simp [bs]
  | unit => intro cs x _ h; simp only [RepC] at h; subst h; rfl
  | prod a b iha ihb =>
    intro cs x h hr
    simp only [Sh.cmpB, Bool.and_eq_true] at h
    obtain ⟨c1, c2, rfl, h1, h2⟩ := hr
    exact fits_append (iha h.1 h1) (ihb h.2 h2)
  | st s ih => intro cs x h hr; exact ih h hr
  | arr n s ih =>
    intro cs x h hr
    obtain ⟨hn, hr⟩ := hr
    have key : ∀ (l : List s.ty) (cs : List Value), RepL (RepC P φ s M) cs l → fits (List.replicate l.length s.lks).flatten cs = some (List.flatMap s.lits l) := by
      intro l
      induction l with
      | nil => intro cs e; simp only [RepL] at e; subst e; rfl
      | cons y l ihl =>
        intro cs hr
        obtain ⟨c, r, rfl, h1, h2⟩ := hr
        simp only [List.length_cons, List.replicate_succ, List.flatten_cons, List.flatMap_cons]
        exact fits_append (ih h h1) (ihl _ h2)
    have := key x cs hr
    rw [hn] at this
    exact this
  | _ => intro cs x h; simp [Sh.cmpB] at h

/-- The look at a type that '==' asks for. -/
def eqTB (P : Program) (T : TypeId) (s : Sh) : Bool := s.cmpB && s.agg && s.fixed && !P.eqGuardType P.depth T && P.keyTypeAt 20 T && decide (flat P 20 T = some s.lks) && (match P.underlying T with | some (.struct _) | some (.array _ _) => Nat.beq s.size (P.cellsOf T) | _ => false)

section
variable {P : Program} {n0 : Nat} {b : Base n0} {M : Fz} {φ : Nat → Value} {ξ : Nat → Option Nat} {H : AStore} {w : World} {ρ : AEnv}

theorem formed_of {T : TypeId} {s : Sh} {cs : List Value} (h : (match P.underlying T with | some (.struct _) | some (.array _ _) => Nat.beq s.size (P.cellsOf T) | _ => false) = true) (hl : cs.length = s.size) : (Value.agg cs.toArray).formed P T = true := by
  unfold Value.formed
  split at h
  · rename_i hu
    simp only [hu]
    have := Nat.eq_of_beq_eq_true h
    simp [hl, this]
  · rename_i hu
    simp only [hu]
    have := Nat.eq_of_beq_eq_true h
    simp [hl, this]
  · cases h

theorem run_eqS {op : BinOp} {T : TypeId} {x y : Operand} {s : Sh} {u v : s.ty} {a c : Value} (hT : eqTB P T s = true) (ha : RelV P M φ (.v s u) a) (hc : RelV P M φ (.v s v) c) (w : World) :
    (op = .eql → (eqN op T x y a c).run P w = .ok (.bool (s.eqb u v)) w) ∧ (op = .neq → (eqN op T x y a c).run P w = .ok (.bool (!s.eqb u v)) w) := by
  simp only [eqTB, Bool.and_eq_true, Bool.not_eq_true', decide_eq_true_eq] at hT
  obtain ⟨⟨⟨⟨⟨⟨h1, h2⟩, h3⟩, h4⟩, h5⟩, h6⟩, h7⟩ := hT
  obtain ⟨_, cs, rfl, hr⟩ := ha
  obtain ⟨_, ds, rfl, hs⟩ := hc
  have e1 : mkV s cs = .agg cs.toArray := by simp [mkV, h2]
  have e2 : mkV s ds = .agg ds.toArray := by simp [mkV, h2]
  have f1 := formed_of (P := P) h7 (rep_len h3 hr)
  have f2 := formed_of (P := P) h7 (rep_len h3 hs)
  have hb : s.eqb u v = true ↔ s.lits u = s.lits v := by rw [eqb_iff h1, lits_inj h1 hr hs]
  rw [e1, e2]
  constructor
  · rintro rfl
    have := run_eql_flat (P := P) (m := 20) (d := 20) (xs := cs.toArray) (ys := ds.toArray) h5 (by decide) h6 f1 f2 (by simpa using rep_fits h1 hr) (by simpa using rep_fits h1 hs) hb w
    simp [eqN, eqGuard, h4, this]
  · rintro rfl
    have := run_neq_flat (P := P) (m := 20) (d := 20) (xs := cs.toArray) (ys := ds.toArray) h5 (by decide) h6 f1 f2 (by simpa using rep_fits h1 hr) (by simpa using rep_fits h1 hs) hb w
    simp [eqN, eqGuard, h4, this]

/-! ### Texts -/
theorem bs_toL (l : Str) : (bs l).toList = l := by
  have key : ∀ (n i : Nat) (r : List UInt8), l.length - i = n → ByteArray.toList.loop (bs l) i r = r.reverse ++ l.drop i := by
    intro n
    induction n with
    | zero =>
      intro i r h
      rw [ByteArray.toList.loop, if_neg (by rw [bs_size]; omega), List.drop_of_length_le (by omega), List.append_nil]
    | succ n ih =>
      intro i r h
      have hi : i < l.length := by omega
      rw [ByteArray.toList.loop, if_pos (by rw [bs_size]; exact hi), ih (i + 1) _ (by omega), List.drop_eq_getElem_cons hi]
      have : (bs l).get! i = l[i] := by
        show (bs l).data[i]! = _
        rw [getElem!_pos _ i (by show i < l.toArray.size; simpa using hi)]
        exact List.getElem_toArray _
      rw [this]
      simp
  have := key l.length 0 [] (by omega)
  simpa [ByteArray.toList] using this

def strA (op : BinOp) (x y : Str) : Option (Sum Bool Str × List Prop) :=
  match op with
  | .eql => some (.inl (x == y), [])
  | .neq => some (.inl (!(x == y)), [])
  | .add => some (.inr (x ++ y), [x.length + y.length ≤ maxLen])
  | .lss => some (.inl (Op.bytesLess x y), [])
  | _ => none
def strR : Sum Bool Str → AVal
  | .inl b => .v .bool b
  | .inr l => .v .str l
theorem run_strA {op : BinOp} {t : TypeId} {x y : Operand} {l m : Str} {r : Sum Bool Str} {C : List Prop} (h : strA op l m = some (r, C)) (hC : AllP C) (w : World) : ∃ v, (eqN op t x y (.string (bs l)) (.string (bs m))).run P w = .ok v w ∧ RelV P M φ (strR r) v := by
  unfold strA at h
  cases op <;> simp only [Option.some.injEq, Prod.mk.injEq, reduceCtorEq] at h
  all_goals obtain ⟨rfl, rfl⟩ := h
  · have h0 : l.length + m.length ≤ 9223372036854775807 := by have := hC.1; simpa [maxLen] using this
    have h1 : ¬ ((((bs l).size + (bs m).size : Nat) : Int) > IntKind.i64.max) := by
      have e : IntKind.i64.max = 9223372036854775807 := by decide
      rw [e, bs_size, bs_size]; omega
    refine ⟨.string (bs (l ++ m)), ?_, rfl, _, rfl, rfl, ?_⟩
    · simp only [eqN, eqGuard, binOp, Op.stringOp, if_neg h1, bs_append]
      simp
    · have := hC.1; simpa using this
  · exact ⟨_, by simp only [eqN, eqGuard, binOp, Op.stringOp, bs_toL]; rfl, rfl, _, rfl, rfl⟩
  · exact ⟨_, by simp only [eqN, eqGuard, binOp, Op.stringOp, bs_toL]; rfl, rfl, _, rfl, rfl⟩
  · exact ⟨_, by simp only [eqN, eqGuard, binOp, Op.stringOp, bs_toL]; rfl, rfl, _, rfl, rfl⟩
end
end Go.Proofs.YtlhbekiplnmolaaDoor
