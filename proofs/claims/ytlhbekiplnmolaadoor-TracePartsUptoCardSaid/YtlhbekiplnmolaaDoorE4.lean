/- The machine's side, told once: types, constants, reading. -/
import Derived.Test.YtlhbekiplnmolaaDoorE3
import Derived.OpenShut
import Derived.IntWalk
set_option linter.unusedVariables false
set_option linter.unusedSimpArgs false
namespace Go.Proofs.YtlhbekiplnmolaaDoor
open Go.RowKit

/-! ### Types -/
def inB (k : IntKind) (n : Int) : Bool := decide (k.min ≤ n) && decide (n ≤ k.max)
theorem inB_ok {k : IntKind} {n : Int} (h : inB k n = true) : k.has n := by
  simp only [inB, Bool.and_eq_true, decide_eq_true_eq] at h
  exact h
theorem has_wrap (k : IntKind) (n : Int) : k.has (k.wrap n) := by
  have := wf_wrap k n
  simp only [Lit.wf, Bool.and_eq_true, decide_eq_true_eq] at this
  exact this

def szB (P : Program) (T n : Nat) : Bool := match P.info? T with | some i => Nat.beq i.size n | none => false
theorem szB_ok {P : Program} {T n : Nat} (h : szB P T n = true) (w : World) : (sizeOf T).run P w = .ok n w := by
  unfold szB at h
  cases hi : P.info? T with
  | none => simp [hi] at h
  | some i =>
    simp only [hi] at h
    have := Nat.eq_of_beq_eq_true h
    subst this
    simp [sizeOf, typeInfo, hi]
def agB (P : Program) (T : Nat) (b : Bool) : Bool := match P.underlying T with
  | some (.struct _) => b
  | some (.array _ _) => b
  | some _ => !b
  | none => false
theorem agB_ok {P : Program} {T : Nat} {b : Bool} (h : agB P T b = true) (w : World) : (isAgg T).run P w = .ok b w := by
  unfold agB at h
  cases hu : P.underlying T with
  | none => simp [hu] at h
  | some d =>
    simp only [hu] at h
    simp only [isAgg, Sem.run_bind, run_underlying hu, Result.andThen_ok]
    cases d <;> simp_all

def prodL : List Sh → Sh
  | [] => .unit
  | [s] => s
  | s :: l => .prod s (prodL l)
/-- A type's shape; z: of its zero value. -/
def shOf (P : Program) (z : Bool) : Nat → TypeId → Sh
  | 0, _ => .any
  | d + 1, t => match P.underlying t with
    | some .bool => .bool
    | some (.int k) => .int k
    | some .string => .str
    | some (.slice e) => if z then .nl (shOf P false d e) else .sl (shOf P false d e)
    | some (.array n e) => .arr n (shOf P false d e)
    | some (.struct fs) => .st (prodL (fs.toList.map fun f => shOf P z d f.type))
    | some (.pointer _) => if z then .np else .any
    | _ => .any
def fPath (m j : Nat) : Path := .u :: (List.replicate j .r ++ if Nat.blt (j + 1) m then [.l] else [])

/-! ### Constants -/
def decL {α : Type} (f : List Value → Option (α × List Value)) : Nat → List Value → Option (List α × List Value)
  | 0, cs => some ([], cs)
  | n + 1, cs => match f cs with
    | some (x, r) => match decL f n r with
      | some (l, r) => some (x :: l, r)
      | none => none
    | none => none
def nlD : List Value → Option (Unit × List Value)
  | .slice none 0 0 :: r => some ((), r)
  | _ => none
def slD {α : Type} : List Value → Option (List α × List Value)
  | .slice none 0 0 :: r => some ([], r)
  | _ => none
def anyD : List Value → Option (Unit × List Value)
  | .pointer none :: r => some ((), r)
  | .nilIface :: r => some ((), r)
  | .nilFunc :: r => some ((), r)
  | .map none :: r => some ((), r)
  | _ => none
def npD : List Value → Option (Unit × List Value)
  | .pointer none :: r => some ((), r)
  | _ => none
def dec : (s : Sh) → List Value → Option (s.ty × List Value)
  | .int k, .int k' n :: r => if k' = k ∧ inB k n = true then some (n, r) else none
  | .bool, .bool x :: r => some (x, r)
  | .str, .string x :: r => if Nat.ble x.size maxLen then some (x.data.toList, r) else none
  | .unit, cs => some ((), cs)
  | .prod a b, cs => match dec a cs with
    | some (x, r) => match dec b r with
      | some (y, r) => some ((x, y), r)
      | none => none
    | none => none
  | .st s, cs => dec s cs
  | .arr n s, cs => decL (dec s) n cs
  | .nl _, cs => nlD cs
  | .sl _, cs => slD cs
  | .any, cs => anyD cs
  | .np, cs => npD cs
  | _, _ => none

theorem decL_ok {α : Type} {f : List Value → Option (α × List Value)} {R : List Value → α → Prop} (h : ∀ cs x r, f cs = some (x, r) → ∃ c, cs = c ++ r ∧ R c x) : ∀ {n : Nat} {cs : List Value} {l : List α} {r : List Value}, decL f n cs = some (l, r) → l.length = n ∧ ∃ c, cs = c ++ r ∧ RepL R c l
  | 0, cs, l, r, e => by
    simp only [decL, Option.some.injEq, Prod.mk.injEq] at e
    obtain ⟨rfl, rfl⟩ := e
    exact ⟨rfl, [], rfl, rfl⟩
  | n + 1, cs, l, r, e => by
    simp only [decL] at e
    cases h1 : f cs with
    | none => simp [h1] at e
    | some q =>
      obtain ⟨x, r1⟩ := q
      simp only [h1] at e
      cases h2 : decL f n r1 with
      | none => simp [h2] at e
      | some q =>
        obtain ⟨l1, r2⟩ := q
        simp only [h2, Option.some.injEq, Prod.mk.injEq] at e
        obtain ⟨rfl, rfl⟩ := e
        obtain ⟨c, rfl, hc⟩ := h cs x r1 h1
        obtain ⟨hl, c', rfl, hc'⟩ := decL_ok h h2
        exact ⟨by simp [hl], c ++ c', by simp, c, c', rfl, hc, hc'⟩

theorem dec_ok {P : Program} {φ : Nat → Value} {M : Fz} : ∀ {s : Sh} {cs : List Value} {x : s.ty} {r : List Value}, dec s cs = some (x, r) → ∃ c, cs = c ++ r ∧ RepC P φ s M c x := by
  intro s
  induction s with
  | int k =>
    intro cs x r h
    rcases cs with _ | ⟨v, cs⟩
    · simp [dec] at h
    · cases v <;> simp only [dec, reduceCtorEq] at h
      split at h
      · rename_i hh
        simp only [Option.some.injEq, Prod.mk.injEq] at h
        obtain ⟨rfl, rfl⟩ := h
        obtain ⟨rfl, h2⟩ := hh
        exact ⟨_, rfl, rfl, inB_ok h2⟩
      · cases h
  | bool =>
    intro cs x r h
    rcases cs with _ | ⟨v, cs⟩
    · simp [dec] at h
    · cases v <;> simp only [dec, reduceCtorEq, Option.some.injEq, Prod.mk.injEq] at h
      obtain ⟨rfl, rfl⟩ := h
      exact ⟨_, rfl, rfl⟩
  | str =>
    intro cs x r h
    rcases cs with _ | ⟨v, cs⟩
    · simp [dec] at h
    · cases v <;> simp only [dec, reduceCtorEq] at h
      rename_i q
      split at h
      · rename_i hh
        simp only [Option.some.injEq, Prod.mk.injEq] at h
        obtain ⟨rfl, rfl⟩ := h
        exact ⟨[.string q], rfl, by rw [← bs_all], Nat.le_of_ble_eq_true hh⟩
      · cases h
  | unit =>
    intro cs x r h
    simp only [dec, Option.some.injEq, Prod.mk.injEq] at h
    obtain ⟨_, rfl⟩ := h
    exact ⟨[], rfl, rfl⟩
  | prod a b iha ihb =>
    intro cs x r h
    simp only [dec] at h
    cases h1 : dec a cs with
    | none => simp [h1] at h
    | some q =>
      obtain ⟨y, r1⟩ := q
      simp only [h1] at h
      cases h2 : dec b r1 with
      | none => simp [h2] at h
      | some q =>
        obtain ⟨z, r2⟩ := q
        simp only [h2, Option.some.injEq, Prod.mk.injEq] at h
        obtain ⟨rfl, rfl⟩ := h
        obtain ⟨c, rfl, hc⟩ := iha h1
        obtain ⟨c', rfl, hc'⟩ := ihb h2
        exact ⟨c ++ c', by simp, c, c', rfl, hc, hc'⟩
  | st s ih => intro cs x r h; exact ih h
  | arr n s ih =>
    intro cs x r h
    obtain ⟨h1, c, h2, h3⟩ := decL_ok (fun cs x r h => ih h) h
    exact ⟨c, h2, h1, h3⟩
  | nl s ih =>
    intro cs x r h
    change nlD cs = some (x, r) at h
    unfold nlD at h
    split at h
    · simp only [Option.some.injEq, Prod.mk.injEq] at h
      obtain ⟨_, rfl⟩ := h
      exact ⟨_, rfl, rfl⟩
    · cases h
  | sl s ih =>
    intro cs x r h
    change slD cs = some (x, r) at h
    unfold slD at h
    split at h
    · simp only [Option.some.injEq, Prod.mk.injEq] at h
      obtain ⟨rfl, rfl⟩ := h
      exact ⟨_, rfl, none, 0, 0, [], rfl, rfl, ⟨Nat.le_refl _, by simp [maxLen]⟩, Cl.nil _ _, rfl⟩
    · cases h
  | any =>
    intro cs x r h
    change anyD cs = some (x, r) at h
    unfold anyD at h
    split at h <;> first
      | (simp only [Option.some.injEq, Prod.mk.injEq] at h; obtain ⟨_, rfl⟩ := h; exact ⟨_, rfl, _, rfl, rfl⟩)
      | cases h
  | np =>
    intro cs x r h
    change npD cs = some (x, r) at h
    unfold npD at h
    split at h
    · simp only [Option.some.injEq, Prod.mk.injEq] at h
      obtain ⟨_, rfl⟩ := h
      exact ⟨_, rfl, rfl⟩
    · cases h
  | _ => intro cs x r h; simp [dec] at h

def cval (P : Program) (ty : TypeId) : Value → Option AVal
  | .int k n => if inB k n = true then some (.v (.int k) n) else none
  | .bool b => some (.v .bool b)
  | .string s => if Nat.ble s.size maxLen = true then some (.v .str s.data.toList) else none
  | .slice none 0 0 => some (.v (.nl .any) ())
  | .pointer none => some .nilp
  | .nilIface => some (.v .any ())
  | .agg cs => if (shOf P true 20 ty).agg && (shOf P true 20 ty).fixed then match dec (shOf P true 20 ty) cs.toList with
    | some (x, []) => some (.v (shOf P true 20 ty) x)
    | _ => none else none
  | _ => none

theorem cval_ok {P : Program} {M : Fz} {φ : Nat → Value} {ty : TypeId} {v : Value} {α : AVal} (h : cval P ty v = some α) : RelV P M φ α v := by
  unfold cval at h
  split at h
  · split at h
    · rename_i hh
      simp only [Option.some.injEq] at h; subst h
      exact ⟨rfl, _, rfl, rfl, inB_ok hh⟩
    · cases h
  · simp only [Option.some.injEq] at h; subst h
    exact ⟨rfl, _, rfl, rfl⟩
  · split at h
    · rename_i q hh
      simp only [Option.some.injEq] at h; subst h
      exact ⟨rfl, [.string q], rfl, by rw [← bs_all], Nat.le_of_ble_eq_true hh⟩
    · cases h
  · simp only [Option.some.injEq] at h; subst h
    exact ⟨rfl, _, rfl, rfl⟩
  · simp only [Option.some.injEq] at h; subst h
    rfl
  · simp only [Option.some.injEq] at h; subst h
    exact ⟨rfl, _, rfl, _, rfl, rfl⟩
  · split at h
    · rename_i hh
      simp only [Bool.and_eq_true] at hh
      split at h
      · rename_i x hd
        simp only [Option.some.injEq] at h; subst h
        obtain ⟨c, hc, hr⟩ := dec_ok (P := P) (φ := φ) (M := M) hd
        rw [List.append_nil] at hc
        refine ⟨hh.2, c, ?_, hr⟩
        rw [← hc]
        simp [mkV, hh.1]
      · cases h
    · cases h
  · cases h

def evA (P : Program) (ρ : AEnv) (ty : TypeId) : Operand → Option AVal
  | .tmp t => look ρ t
  | .const v => cval P ty v
  | .func f => some (.clo f [])
  | .global _ => none

section
variable {P : Program} {n0 : Nat} {b : Base n0} {M : Fz} {φ : Nat → Value} {ξ : Nat → Option Nat} {H : AStore} {w : World} {ρ : AEnv}

theorem evA_ok {a : Act} (he : EnvR P M φ ρ a.tmps) {ty : TypeId} {x : Operand} {α : AVal} (h : evA P ρ ty x = some α) : RelV P M φ α (a.eval x) := by
  cases x with
  | tmp t =>
    obtain ⟨v, h1, h2⟩ := he t α h
    obtain ⟨hl, h1⟩ := Array.getElem?_eq_some_iff.1 h1
    have : a.eval (.tmp t) = v := by simp only [Act.eval, Array.getD, hl, dif_pos]; exact h1
    rw [this]; exact h2
  | const v => exact cval_ok h
  | func f =>
    simp only [evA, Option.some.injEq] at h; subst h
    exact ⟨[], rfl, rfl⟩
  | global g => simp [evA] at h

/-! ### Reading -/
def AItem.tv : AItem → TV
  | .var _ s x => ⟨s, x⟩
  | .row _ s x => ⟨.lst s, x⟩
  | .mp _ _ _ _ => ⟨.unit, ()⟩
def loaded : TV → AVal
  | ⟨.ref, x⟩ => .row x
  | ⟨.np, _⟩ => .nilp
  | ⟨s, x⟩ => .v s x
/-- A value's shape: no part of a struct. -/
def Sh.isV : Sh → Bool
  | .unit => false
  | .prod _ _ => false
  | .lst _ => false
  | _ => true
def okT (P : Program) (T : TypeId) (s : Sh) : Bool := szB P T s.size && agB P T s.agg && s.fixed && s.isV

theorem loaded_ok {v : TV} {cs : List Value} (hf : v.1.fixed = true) (h : RepC P φ v.1 M cs v.2) : RelV P M φ (loaded v) (mkV v.1 cs) := by
  obtain ⟨s, x⟩ := v
  cases s with
  | ref => obtain ⟨rfl, h2⟩ := h; exact ⟨rfl, h2⟩
  | np => simp only [RepC] at h; subst h; exact rfl
  | _ => exact ⟨hf, cs, rfl, h⟩

theorem run_loadCellsAt {w : World} {g off : Nat} {cs : List Value} (hb : ∀ i v, cs[i]? = some v → w.cell? ⟨g, off + i, none⟩ = some v) : ∀ (n i : Nat) (acc : Array Value), i + n ≤ cs.length → (loadCellsFrom ⟨g, off, none⟩ i n acc).run P w = .ok (acc ++ (cs.drop i).take n) w := by
  have addz : ∀ q, (⟨g, off, none⟩ : Addr).add q = ⟨g, off + q, none⟩ := fun q => by
    unfold Addr.add
    split
    · simp_all
    · rfl
  intro n
  induction n with
  | zero => intro i acc _; simp [loadCellsFrom]
  | succ n ih =>
    intro i acc h
    have hv : w.cell? ((⟨g, off, none⟩ : Addr).add i) = some (cs[i]'(by omega)) := by
      rw [addz]
      exact hb _ _ (List.getElem?_eq_getElem _)
    simp only [loadCellsFrom, load, Sem.run_bind, Sem.run, hv, Result.andThen_ok]
    rw [ih (i + 1) _ (by omega)]
    congr 1
    apply Array.ext'
    simp
    rw [List.drop_eq_getElem_cons (i := i) (show i < cs.length by omega), List.take_succ_cons]

/-- Cells that lie one behind the other are a value. -/
theorem run_loadAt {w : World} {T : TypeId} {g off : Nat} {s : Sh} {cs : List Value} (hT : okT P T s = true) (hl : cs.length = s.size) (hb : ∀ i v, cs[i]? = some v → w.cell? ⟨g, off + i, none⟩ = some v) :
    (Instr.loadAt T (.pointer (some ⟨g, off, none⟩))).run P w = .ok (mkV s cs) w := by
  simp only [okT, Bool.and_eq_true] at hT
  obtain ⟨⟨⟨h1, h2⟩, _⟩, h3⟩ := hT
  unfold mkV
  cases ha : s.agg with
  | true =>
    rw [ha] at h2
    have := run_loadCellsAt (P := P) hb s.size 0 #[] (by omega)
    simp only [List.drop_zero] at this
    rw [List.take_of_length_le (by omega)] at this
    simp [Instr.loadAt, Instr.sureAddr, loadVar, agB_ok h2, szB_ok h1, loadCells, this]
  | false =>
    rw [ha] at h2
    have hs : s.size = 1 := by cases s <;> first | rfl | (simp [Sh.isV] at h3; done) | (simp [Sh.agg] at ha; done)
    obtain ⟨v, rfl⟩ : ∃ v, cs = [v] := by
      match cs, hl with
      | [v], _ => exact ⟨v, rfl⟩
      | [], hl => rw [hs] at hl; cases hl
      | _ :: _ :: _, hl => rw [hs] at hl; simp at hl
    have hc := hb 0 v rfl
    rw [Nat.add_zero] at hc
    simp [Instr.loadAt, Instr.sureAddr, loadVar, agB_ok h2, load, Sem.run, hc]
end
end Go.Proofs.YtlhbekiplnmolaaDoor
