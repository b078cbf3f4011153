/- The machine's side, told once: single operations. -/
import Derived.Test.YthapghhmeicbnaaDoorK0
import Derived.Laws.BitsAllLaws
import Derived.IntWalk
set_option linter.unusedVariables false
set_option linter.unusedSimpArgs false
namespace Go.Proofs.YthapghhmeicbnaaDoor
open Go.RowKit

def vN (s : Sem Value) : Sem Next := do pure (.value (← s))
def uN (s : Sem Unit) : Sem Next := do s; pure .skip
def eqN (op : BinOp) (t : TypeId) (x y : Operand) (a b : Value) : Sem Value := do eqGuard op t x y a b; binOp op t a b

def evO (ρ : Env) : Option Operand → Option (Option Value)
  | none => some none
  | some x => match ev ρ x with
    | some v => some (some v)
    | none => none

def evP (ρ : Env) : List (Nat × Operand) → Option (List (Nat × Value))
  | [] => some []
  | (i, x) :: l => match ev ρ x, evP ρ l with
    | some v, some r => some ((i, v) :: r)
    | _, _ => none

theorem evP_ok {ρ : Env} {a : Act} (h : EnvOk ρ a.tmps) : ∀ {l : List (Nat × Operand)} {r : List (Nat × Value)}, evP ρ l = some r → l.map (fun x => (x.1, a.eval x.2)) = r
  | [], r, hx => by simp [evP] at hx; simp [hx]
  | (i, x) :: l, r, hx => by
    simp only [evP] at hx
    cases h1 : ev ρ x with
    | none => simp [h1] at hx
    | some v =>
      cases h2 : evP ρ l with
      | none => simp [h1, h2] at hx
      | some q =>
        simp [h1, h2] at hx
        subst hx
        simp [ev_ok h h1, evP_ok h h2]

theorem evO_ok {ρ : Env} {a : Act} (h : EnvOk ρ a.tmps) {x : Option Operand} {r : Option Value} (hx : evO ρ x = some r) : x.map a.eval = r := by
  cases x with
  | none => simp [evO] at hx; simp [hx]
  | some x =>
    simp only [evO] at hx
    cases h1 : ev ρ x with
    | none => simp [h1] at hx
    | some v => simp [h1] at hx; subst hx; simp [ev_ok h h1]

def m1 (ρ : Env) (x : Operand) (f : Value → Sem Next) : Option (Sem Next) := match ev ρ x with | some v => some (f v) | none => none
def m2 (ρ : Env) (x y : Operand) (f : Value → Value → Sem Next) : Option (Sem Next) := match ev ρ x, ev ρ y with | some v, some u => some (f v u) | _, _ => none
def m3 (ρ : Env) (x y z : Operand) (f : Value → Value → Value → Sem Next) : Option (Sem Next) := match ev ρ x, ev ρ y, ev ρ z with | some v, some u, some t => some (f v u t) | _, _, _ => none

def callN (v : Value) (args : List Value) : Sem Next := do let d ← Deferred.ofValue v args.toArray; invoke d.target d.args

def semOf (ρ : Env) (ty : TypeId) : Op → Option (Sem Next)
  | .move x | .assign x => m1 ρ x fun v => pure (.value v)
  | .pick c x y => m3 ρ c x y fun c x y => do pure (.value (if ← asBool c then x else y))
  | .alloc t => some (vN (Instr.alloc t true (.tuple #[])))
  | .box t x => m1 ρ x fun v => vN (Instr.box t v)
  | .build t ps => match evP ρ ps.toList with | some l => some (vN (Instr.build t l.toArray)) | none => none
  | .buildSlice t n ps => match evP ρ ps.toList with | some l => some (vN (Instr.buildSlice t n l.toArray)) | none => none
  | .load t x => m1 ρ x fun v => vN (Instr.loadAt t v)
  | .store t x y => m2 ρ x y fun v u => uN (Instr.storeAt t v u)
  | .binOp op t x y _ => m2 ρ x y fun v u => vN (eqN op t x y v u)
  | .unOp op _ x => m1 ρ x fun v => vN (Op.unary op v)
  | .convert s d x => m1 ρ x fun v => vN (convert s d v)
  | .makeInterface t x => m1 ρ x fun v => vN (Instr.makeInterface t v)
  | .makeFunc f first cap => match evs ρ first.toList, evs ρ cap.toList with | some a, some b => some (vN (Instr.makeFunc f a.toArray b.toArray)) | _, _ => none
  | .makeMap t r => match evO ρ r with | some v => some (vN (Instr.makeMap t v)) | none => none
  | .makeSlice t l c => m2 ρ l c fun v u => vN (Instr.makeSlice t v u)
  | .slice t x lo hi mx => match ev ρ x, evO ρ lo, evO ρ hi, evO ρ mx with | some v, some l, some h, some m => some (vN (Instr.sliceAt t v l h m)) | _, _, _, _ => none
  | .fieldAddr t x f => m1 ρ x fun v => vN (Instr.fieldAt t v f)
  | .field t x f => m1 ρ x fun v => vN (Instr.field t v f)
  | .indexAddr t x y => m2 ρ x y fun v u => vN (Instr.indexAt t v u)
  | .index t x y => m2 ρ x y fun v u => vN (Instr.index t v u)
  | .lookup t x y ok => m2 ρ x y fun v u => vN (Instr.lookup t v u ok)
  | .mapUpdate t m x y | .insert t m x y => m3 ρ m x y fun m v u => uN (Instr.mapUpdate t m v u)
  | .mapEntry t m x => m2 ρ m x fun m v => vN (Instr.mapEntry t m v)
  | .entryStore t m s x => m3 ρ m s x fun m v u => uN (Instr.entryStore t m v u)
  | .range t x => m1 ρ x fun v => vN (Instr.range t v)
  | .next x b => m1 ρ x fun v => vN (Instr.next v b ty)
  | .entry x => m1 ρ x fun v => vN (Instr.entry v)
  | .extract x i => m1 ρ x fun v => vN (Instr.extract v i)
  | .nilCheck x => match ev ρ x with | some (.pointer (some p)) => some (pure (.value (.pointer (some p)))) | some (.func (.func f) a b) => some (pure (.value (.func (.func f) a b))) | _ => none
  | .call ⟨.value f, xs, _⟩ => match ev ρ f, evs ρ xs.toList with | some v, some l => some (callN v l) | _, _ => none
  | .call ⟨.builtin b, xs, ts⟩ => match evs ρ xs.toList with
    | some l => match b with
      | .len => some (vN (Builtin.len_ ts ty l.toArray))
      | .append => some (vN (Builtin.append_ ts ty l.toArray))
      | .copy => some (vN (Builtin.copy_ ts ty l.toArray))
      | .max => some (vN (Builtin.max_ ts ty l.toArray))
      | .min => some (vN (Builtin.min_ ts ty l.toArray))
      | .cap => some (vN (Builtin.cap_ ts ty l.toArray))
      | .delete => some (vN (Builtin.delete_ ts ty l.toArray))
      | .unsafeSliceData => some (vN (Builtin.unsafeSliceData_ ts ty l.toArray))
      | .unsafeString => some (vN (Builtin.unsafeString_ ts ty l.toArray))
      | _ => none
    | none => none
  | _ => none

theorem m1_ok {ρ : Env} {a : Act} (h : EnvOk ρ a.tmps) {x : Operand} {f : Value → Sem Next} {s : Sem Next} (hs : m1 ρ x f = some s) : f (a.eval x) = s := by
  unfold m1 at hs
  cases h1 : ev ρ x with
  | none => simp [h1] at hs
  | some v => simp [h1] at hs; subst hs; rw [ev_ok h h1]
theorem m2_ok {ρ : Env} {a : Act} (h : EnvOk ρ a.tmps) {x y : Operand} {f : Value → Value → Sem Next} {s : Sem Next} (hs : m2 ρ x y f = some s) : f (a.eval x) (a.eval y) = s := by
  unfold m2 at hs
  cases h1 : ev ρ x with
  | none => simp [h1] at hs
  | some v =>
    cases h2 : ev ρ y with
    | none => simp [h1, h2] at hs
    | some u => simp [h1, h2] at hs; subst hs; rw [ev_ok h h1, ev_ok h h2]
theorem m3_ok {ρ : Env} {a : Act} (h : EnvOk ρ a.tmps) {x y z : Operand} {f : Value → Value → Value → Sem Next} {s : Sem Next} (hs : m3 ρ x y z f = some s) : f (a.eval x) (a.eval y) (a.eval z) = s := by
  unfold m3 at hs
  cases h1 : ev ρ x with
  | none => simp [h1] at hs
  | some v =>
    cases h2 : ev ρ y with
    | none => simp [h1, h2] at hs
    | some u =>
      cases h3 : ev ρ z with
      | none => simp [h1, h2, h3] at hs
      | some t => simp [h1, h2, h3] at hs; subst hs; rw [ev_ok h h1, ev_ok h h2, ev_ok h h3]

theorem arr_map {α β : Type} (xs : Array α) (f : α → β) {l : List β} (h : xs.toList.map f = l) : xs.map f = l.toArray := by
  subst h
  apply Array.ext'
  rw [Array.toList_map]

theorem semOf_ok {ρ : Env} {a : Act} (h : EnvOk ρ a.tmps) {o : Oper} {s : Sem Next} (hs : semOf ρ o.type o.op = some s) : execOp a.eval o = s := by
  obtain ⟨dst, op, type, pos, after, guard⟩ := o
  change semOf ρ type op = some s at hs
  cases op with
  | move x => exact m1_ok h hs
  | assign x => exact m1_ok h hs
  | pick c x y => exact m3_ok h hs
  | alloc t => simp only [semOf, Option.some.injEq] at hs; subst hs; rfl
  | box t x => exact m1_ok h hs
  | build t ps =>
    simp only [semOf] at hs
    cases h1 : evP ρ ps.toList with
    | none => simp [h1] at hs
    | some l => simp [h1] at hs; subst hs; have := arr_map ps _ (evP_ok h h1); simp only [execOp]; rw [← this]; rfl
  | buildSlice t n ps =>
    simp only [semOf] at hs
    cases h1 : evP ρ ps.toList with
    | none => simp [h1] at hs
    | some l => simp [h1] at hs; subst hs; have := arr_map ps _ (evP_ok h h1); simp only [execOp]; rw [← this]; rfl
  | load t x => exact m1_ok h hs
  | store t x y => exact m2_ok h hs
  | binOp op t x y yt => exact m2_ok h (f := fun v u => vN (eqN op t x y v u)) hs
  | unOp op t x => exact m1_ok h hs
  | convert s d x => exact m1_ok h hs
  | makeInterface t x => exact m1_ok h hs
  | makeFunc f first cap =>
    simp only [semOf] at hs
    cases h1 : evs ρ first.toList with
    | none => simp [h1] at hs
    | some l =>
      cases h2 : evs ρ cap.toList with
      | none => simp [h1, h2] at hs
      | some q => simp [h1, h2] at hs; subst hs; have e1 := arr_map first _ (evs_ok h h1); have e2 := arr_map cap _ (evs_ok h h2); simp only [execOp]; rw [← e1, ← e2]; rfl
  | makeMap t r =>
    simp only [semOf] at hs
    cases h1 : evO ρ r with
    | none => simp [h1] at hs
    | some l => simp [h1] at hs; subst hs; simp only [execOp]; rw [evO_ok h h1]; rfl
  | makeSlice t l c => exact m2_ok h hs
  | slice t x lo hi mx =>
    simp only [semOf] at hs
    cases h1 : ev ρ x with
    | none => simp [h1] at hs
    | some v =>
      cases h2 : evO ρ lo with
      | none => simp [h1, h2] at hs
      | some l =>
        cases h3 : evO ρ hi with
        | none => simp [h1, h2, h3] at hs
        | some hh =>
          cases h4 : evO ρ mx with
          | none => simp [h1, h2, h3, h4] at hs
          | some m => simp [h1, h2, h3, h4] at hs; subst hs; simp only [execOp]; rw [ev_ok h h1, evO_ok h h2, evO_ok h h3, evO_ok h h4]; rfl
  | fieldAddr t x f => exact m1_ok h hs
  | field t x f => exact m1_ok h hs
  | indexAddr t x y => exact m2_ok h hs
  | index t x y => exact m2_ok h hs
  | lookup t x y ok => exact m2_ok h (f := fun v u => vN (Instr.lookup t v u ok)) hs
  | mapUpdate t m x y => exact m3_ok h hs
  | insert t m x y => exact m3_ok h hs
  | mapEntry t m x => exact m2_ok h hs
  | entryStore t m s x => exact m3_ok h hs
  | range t x => exact m1_ok h hs
  | next x b => exact m1_ok h hs
  | entry x => exact m1_ok h hs
  | extract x i => exact m1_ok h hs
  | nilCheck x =>
    simp only [semOf] at hs
    cases h1 : ev ρ x with
    | none => simp [h1] at hs
    | some v =>
      simp only [h1] at hs
      simp only [execOp]
      rw [ev_ok h h1]
      split at hs
      · rename_i e; obtain rfl := Option.some.inj e; simp at hs; subst hs; rfl
      · rename_i e; obtain rfl := Option.some.inj e; simp at hs; subst hs; rfl
      · cases hs
  | call c =>
    obtain ⟨callee, xs, ts⟩ := c
    cases callee with
    | value f =>
      simp only [semOf] at hs
      cases h1 : ev ρ f with
      | none => simp [h1] at hs
      | some v =>
        cases h2 : evs ρ xs.toList with
        | none => simp [h1, h2] at hs
        | some l =>
          simp [h1, h2] at hs
          subst hs
          have e2 := arr_map xs _ (evs_ok h h2)
          simp only [execOp, resolve]
          rw [ev_ok h h1, e2]
          rfl
    | builtin b =>
      simp only [semOf] at hs
      cases h2 : evs ρ xs.toList with
      | none => simp [h2] at hs
      | some l =>
        simp only [h2] at hs
        have e2 := arr_map xs _ (evs_ok h h2)
        simp only [execOp, resolve]
        rw [e2]
        cases b <;> simp only [Option.some.injEq, reduceCtorEq] at hs <;> (subst hs; rfl)
    | invoke r n => simp [semOf] at hs
  | _ => simp [semOf] at hs

/-- The operation that is next: where its value goes, and what it does. -/
def step (n : Nat) (ops : Array Oper) (i : Nat) (ρ : Env) : Option (Option Tmp × Sem Next) :=
  match ops[i]? with
  | some ⟨dst, op, ty, _, _, none⟩ => match semOf ρ ty op with
    | some s => match dst with
      | some d => if Nat.blt d n then some (some d, s) else none
      | none => some (none, s)
    | none => none
  | _ => none

section
variable {P : Program} {fn : Func} {w0 : World} {k : List KI} {ρ : Env} {H : Hp} {R : Value → Hp → Prop} {ops : Array Oper} {i : Nat} {todo : List Nat} {dst : Option Tmp} {d : Tmp}

theorem step_ok {s : Sem Next} (h : step fn.ntmps ops i ρ = some (dst, s)) :
    ∃ o, ops[i]? = some o ∧ o.guard = none ∧ o.dst = dst ∧ (∀ d, dst = some d → d < fn.ntmps) ∧ ∀ a : Act, EnvOk ρ a.tmps → execOp a.eval o = s := by
  unfold step at h
  cases ho : ops[i]? with
  | none => simp [ho] at h
  | some o =>
    obtain ⟨dst', op, ty, pos, after, guard⟩ := o
    simp only [ho] at h
    cases guard with
    | some g => simp at h
    | none =>
      simp only at h
      cases hs : semOf ρ ty op with
      | none => simp [hs] at h
      | some s' =>
        simp only [hs] at h
        cases dst' with
        | none =>
          simp only [Option.some.injEq, Prod.mk.injEq] at h
          obtain ⟨rfl, rfl⟩ := h
          exact ⟨_, rfl, rfl, rfl, by simp, fun a ha => semOf_ok (o := ⟨none, op, ty, pos, after, none⟩) ha hs⟩
        | some d =>
          simp only at h
          by_cases hb : Nat.blt d fn.ntmps = true
          · rw [if_pos hb] at h
            simp only [Option.some.injEq, Prod.mk.injEq] at h
            obtain ⟨rfl, rfl⟩ := h
            exact ⟨_, rfl, rfl, rfl, fun e he => by obtain rfl := Option.some.inj he; simpa [Nat.blt_eq] using hb, fun a ha => semOf_ok (o := ⟨some d, op, ty, pos, after, none⟩) ha hs⟩
          · rw [if_neg hb] at h; cases h

theorem wanted_none {o : Oper} (h : o.guard = none) (y : Nat → Option Bool) : Region.wanted o y = true := by simp [Region.wanted, h]

theorem put_size (a : Act) (dst : Option Tmp) (v : Value) : (a.put dst v).tmps.size = a.tmps.size := by cases dst <;> simp [Act.put]
theorem put_defers (a : Act) (dst : Option Tmp) (v : Value) : (a.put dst v).defers = a.defers := by cases dst <;> rfl

/-- An operation that gives a value. -/
theorem run_val {s : Sem Next} (h : step fn.ntmps ops i ρ = some (dst, s))
    (hr : ∀ w, Sat w0 H w → ∃ v w' H', s.run P w = .ok (.value v) w' ∧ Sat w0 H' w' ∧ Run P fn w0 (.ops ops todo :: k) (bind dst v ρ) H' R) : Run P fn w0 (.ops ops (i :: todo) :: k) ρ H R := by
  obtain ⟨o, ho, hg, hd, hlt, he⟩ := step_ok h
  intro a w h1 h2 h3 h4
  obtain ⟨v, w', H', hs, h4', hrun⟩ := hr w h4
  show wpOps P ops _ (i :: todo) a w
  simp only [wpOps, ho, wanted_none hg, if_true]
  left
  simp only [Oper.wp, he a h1, hs, Oper.upon_value, hd]
  exact hrun _ _ (h1.bind dst v (by rw [h2]; exact hlt)) (by rw [put_size]; exact h2) (by rw [put_defers]; exact h3) h4'

theorem run_unit {s : Sem Next} (h : step fn.ntmps ops i ρ = some (none, s))
    (hr : ∀ w, Sat w0 H w → ∃ w' H', s.run P w = .ok .skip w' ∧ Sat w0 H' w' ∧ Run P fn w0 (.ops ops todo :: k) ρ H' R) : Run P fn w0 (.ops ops (i :: todo) :: k) ρ H R := by
  obtain ⟨o, ho, hg, hd, hlt, he⟩ := step_ok h
  intro a w h1 h2 h3 h4
  obtain ⟨w', H', hs, h4', hrun⟩ := hr w h4
  show wpOps P ops _ (i :: todo) a w
  simp only [wpOps, ho, wanted_none hg, if_true]
  left
  simp only [Oper.wp, he a h1, hs, Oper.upon_skip, hd]
  exact hrun _ _ h1 h2 h3 h4'

theorem vN_run {s : Sem Value} {v : Value} {w w' : World} (h : s.run P w = .ok v w') : (vN s).run P w = .ok (.value v) w' := by simp [vN, h]
theorem uN_run {s : Sem Unit} {w w' : World} (h : s.run P w = .ok () w') : (uN s).run P w = .ok .skip w' := by simp [uN, h]

/-- Moves. -/
theorem run_mv {v : Value} (h : step fn.ntmps ops i ρ = some (some d, pure (.value v))) (hk : Run P fn w0 (.ops ops todo :: k) ((d, v) :: ρ) H R) : Run P fn w0 (.ops ops (i :: todo) :: k) ρ H R :=
  run_val h fun w h4 => ⟨v, w, H, rfl, h4, hk⟩
/-- Operations that only read. -/
theorem run_rd {s : Sem Value} {v : Value} (h : step fn.ntmps ops i ρ = some (some d, vN s)) (hr : Rdo P w0 H s v) (hk : Run P fn w0 (.ops ops todo :: k) ((d, v) :: ρ) H R) : Run P fn w0 (.ops ops (i :: todo) :: k) ρ H R :=
  run_val h fun w h4 => ⟨v, w, H, vN_run (hr w h4), h4, hk⟩

/-- A variable of the call's own. -/
theorem run_box {t : TypeId} {v : Value} (h : step fn.ntmps ops i ρ = some (some d, vN (Instr.box t v)))
    (hk : ∀ g, Run P fn w0 (.ops ops todo :: k) ((d, .pointer (some ⟨g, 0, none⟩)) :: ρ) (.blk g (.cells v.cells t) :: H) R) : Run P fn w0 (.ops ops (i :: todo) :: k) ρ H R :=
  run_val h fun w h4 => ⟨_, _, _, vN_run (by simp [Instr.box, newVar, newRow]), h4.alloc _, hk w.heap.size⟩

theorem run_alloc {t : TypeId} {z : Value} (h : step fn.ntmps ops i ρ = some (some d, vN (Instr.alloc t true (.tuple #[])))) (hz : ∀ w, (zeroValue t).run P w = .ok z w)
    (hk : ∀ g, Run P fn w0 (.ops ops todo :: k) ((d, .pointer (some ⟨g, 0, none⟩)) :: ρ) (.blk g (.cells z.cells t) :: H) R) : Run P fn w0 (.ops ops (i :: todo) :: k) ρ H R :=
  run_val h fun w h4 => ⟨_, _, _, vN_run (by simp [Instr.alloc, hz, newVar, newRow]), h4.alloc _, hk w.heap.size⟩

theorem sat_cell {w : World} (h4 : Sat w0 H w) {j g off : Nat} {c : Array Value} {t : TypeId} {fr : Nat × Nat} {v : Value} (hH : H[j]? = some (.blk g (.cells c t fr))) (hc : c[off]? = some v) : w.cell? ⟨g, off, none⟩ = some v := by
  have := (h4.mem j _ hH).2
  simp [World.cell?, this, hc]

theorem rd_load {T t : TypeId} {j g off : Nat} {c : Array Value} {fr : Nat × Nat} {v : Value} (ha : ∀ w, (isAgg T).run P w = .ok false w) (hH : H[j]? = some (.blk g (.cells c t fr))) (hc : c[off]? = some v) :
    Rdo P w0 H (Instr.loadAt T (.pointer (some ⟨g, off, none⟩))) v := fun w h4 => by
  have := sat_cell h4 hH hc
  simp [Instr.loadAt, Instr.sureAddr, loadVar, ha, load, Sem.run, this]

theorem add_zero_off (g off i : Nat) : (⟨g, off, none⟩ : Addr).add i = ⟨g, off + i, none⟩ := by
  unfold Addr.add
  split
  · simp_all
  · rfl

theorem run_loadCellsFrom {w : World} {g off : Nat} {c : Array Value} (hb : ∀ i v, c[i]? = some v → w.cell? ⟨g, i, none⟩ = some v) (n : Nat) : ∀ (i : Nat) (acc : Array Value), off + i + n ≤ c.size → (loadCellsFrom ⟨g, off, none⟩ i n acc).run P w = .ok (acc ++ c.extract (off + i) (off + i + n)) w := by
  induction n with
  | zero => intro i acc _; simp [loadCellsFrom]; omega
  | succ n ih =>
    intro i acc h
    have hv : w.cell? ((⟨g, off, none⟩ : Addr).add i) = some (c[off + i]'(by omega)) := by
      rw [add_zero_off]
      exact hb _ _ (Array.getElem?_eq_getElem _)
    simp only [loadCellsFrom, load, Sem.run_bind, Sem.run, hv, Result.andThen_ok]
    rw [ih (i + 1) _ (by omega)]
    congr 1
    apply Array.ext
    · simp; omega
    · intro j h1 h2
      simp only [Array.getElem_append, Array.size_push, Array.getElem_push, Array.getElem_extract]
      split
      · split
        · rfl
        · congr 1; omega
      · split
        · omega
        · congr 1; omega

theorem rd_loadA {T t : TypeId} {j g off n : Nat} {c : Array Value} {fr : Nat × Nat} {u : Array Value} (ha : ∀ w, (isAgg T).run P w = .ok true w) (hn : ∀ w, (sizeOf T).run P w = .ok n w) (hH : H[j]? = some (.blk g (.cells c t fr))) (hs : Nat.ble (off + n) c.size = true) (hu : c.extract off (off + n) = u) :
    Rdo P w0 H (Instr.loadAt T (.pointer (some ⟨g, off, none⟩))) (.agg u) := fun w h4 => by
  have hb : ∀ i v, c[i]? = some v → w.cell? ⟨g, i, none⟩ = some v := fun i v hv => sat_cell h4 hH hv
  have := run_loadCellsFrom (P := P) (off := off) hb n 0 #[] (by simpa using Nat.le_of_ble_eq_true hs)
  simp only [Nat.add_zero, Array.empty_append] at this
  simp [Instr.loadAt, Instr.sureAddr, loadVar, ha, hn, loadCells, this, hu]

/-- The same out of a variable that is a whole block. -/
theorem rd_loadW {T t : TypeId} {j g n : Nat} {c : Array Value} {fr : Nat × Nat} (ha : ∀ w, (isAgg T).run P w = .ok true w) (hn : ∀ w, (sizeOf T).run P w = .ok n w) (hH : H[j]? = some (.blk g (.cells c t fr))) (hs : c.size = n) :
    Rdo P w0 H (Instr.loadAt T (.pointer (some ⟨g, 0, none⟩))) (.agg c) :=
  rd_loadA ha hn hH (Nat.ble_eq_true_of_le (by omega)) (by subst hs; simp)

/-- Cells written, one behind the other. -/
def setAll (c : Array Value) (off : Nat) : List Value → Array Value
  | [] => c
  | v :: l => setAll (c.setIfInBounds off v) (off + 1) l
theorem setAll_size (l : List Value) : ∀ (c : Array Value) (off : Nat), (setAll c off l).size = c.size := by
  induction l with
  | nil => intro c off; rfl
  | cons v l ih => intro c off; simp [setAll, ih]

theorem run_storeCells {g : Nat} {t : TypeId} (l : List Value) : ∀ {w : World} {c : Array Value} {off i : Nat}, w.heap[g]? = some (.cells c t (0, 0)) → off + i + l.length ≤ c.size → (∀ v ∈ l, v.oneCell' = true) →
    ∃ w', (storeCells ⟨g, off, none⟩ l i).run P w = .ok () w' ∧ w'.heap[g]? = some (.cells (setAll c (off + i) l) t (0, 0)) ∧ w'.os = w.os ∧ w'.tape = w.tape ∧ w'.output = w.output ∧ w'.heap.size = w.heap.size ∧ ∀ b, b ≠ g → w'.heap[b]? = w.heap[b]? := by
  induction l with
  | nil => intro w c off i h _ _; exact ⟨w, rfl, h, rfl, rfl, rfl, rfl, fun _ _ => rfl⟩
  | cons v l ih =>
    intro w c off i h hlen h1
    have hcell : w.cell? ((⟨g, off, none⟩ : Addr).add i) = some (c[off + i]'(by simp at hlen; omega)) := by
      rw [add_zero_off]
      simp [World.cell?, h]
    have hfz : w.frozen? ((⟨g, off, none⟩ : Addr).add i) = false := by rw [add_zero_off]; simp [World.frozen?, h]
    have hset : (w.setCell ((⟨g, off, none⟩ : Addr).add i) v).heap[g]? = some (.cells (c.setIfInBounds (off + i) v) t (0, 0)) := by
      rw [add_zero_off]
      simp [World.setCell, Array.getElem?_modify, h]
    obtain ⟨w', r1, r2, r3, r4, r5, r6, r7⟩ := ih (w := w.setCell ((⟨g, off, none⟩ : Addr).add i) v) (i := i + 1) (off := off) hset (by simp at hlen ⊢; omega) (fun u hu => h1 u (by simp [hu]))
    refine ⟨w', ?_, r2, r3, r4, r5, r6.trans (by simp [World.setCell]), fun b hb => (r7 b hb).trans (Below.heap_setCell _ _ _ _ (by rw [add_zero_off]; exact hb))⟩
    have hv := h1 v (by simp)
    have hst : (store ((⟨g, off, none⟩ : Addr).add i) v).run P w = .ok () (w.setCell ((⟨g, off, none⟩ : Addr).add i) v) := by
      cases v <;> first | (simp [Value.oneCell'] at hv; done) | simp [store, Sem.run, hcell, hfz]
    simp only [storeCells, Sem.run_bind, hst, Result.andThen_ok, r1]
end
end Go.Proofs.YthapghhmeicbnaaDoor
