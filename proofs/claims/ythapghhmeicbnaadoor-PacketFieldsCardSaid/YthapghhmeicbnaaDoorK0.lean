/- The machine's side, told once: running a function's code over what is known of memory. -/
import Derived.Test.YthapghhmeicbnaaDoorProg
import Derived.WalkKit
import Derived.Below
import Derived.Calls
import Derived.Laws.AppendOwn
import Derived.Deep.QuietTactic
set_option linter.unusedVariables false
set_option linter.unusedSimpArgs false
namespace Go.Proofs.YthapghhmeicbnaaDoor
open Go.RowKit

/-- What is known of memory: a block whole, or a row of the call's own behind a slice. -/
inductive HI where
  | blk (g : Nat) (o : Obj)
  | row (A : Option Addr) (cap : Nat) (e : TypeId) (size n : Nat) (xs : List Value)

def HI.foot : HI → Option Nat
  | .blk g _ => some g
  | .row A _ _ _ _ _ => A.map (·.block)

def HI.holds (base : Nat) (w : World) : HI → Prop
  | .blk g o => base ≤ g ∧ w.heap[g]? = some o
  | .row A cap e size n xs => w.ownsRow base e size (.slice A n cap) n xs

abbrev Hp := List HI

structure Sat (w0 : World) (H : Hp) (w : World) : Prop where
  below : Below w0.heap.size w0 w
  mem : ∀ (i : Nat) (x : HI), H[i]? = some x → x.holds w0.heap.size w
  sep : ∀ (i j : Nat) (x y : HI), i ≠ j → H[i]? = some x → H[j]? = some y → ∀ g, x.foot = some g → y.foot ≠ some g

theorem HI.holds_lt {base : Nat} {w : World} {x : HI} (h : x.holds base w) {g : Nat} (hg : x.foot = some g) : base ≤ g ∧ g < w.heap.size := by
  cases x with
  | blk g' o =>
    simp only [HI.foot, Option.some.injEq] at hg
    subst hg
    exact ⟨h.1, (Array.getElem?_eq_some_iff.1 h.2).1⟩
  | row A cap e size n xs =>
    refine World.ownsRow.lt h g ?_
    cases A with
    | none => simp [HI.foot] at hg
    | some a => exact hg

/-- What is known stands where its block does. -/
theorem HI.holds_kept {base : Nat} {w w' : World} {x : HI} (h : x.holds base w) (hs : w.heap.size ≤ w'.heap.size) (hb : ∀ g, x.foot = some g → w'.heap[g]? = w.heap[g]?) : x.holds base w' := by
  cases x with
  | blk g o => exact ⟨h.1, (hb g rfl).trans h.2⟩
  | row A cap e size n xs =>
    refine ⟨h.1, ?_⟩
    rcases h.2 with hn | ⟨g, cap', cur, hv, hbg, hgg, rest⟩
    · exact .inl hn
    · refine .inr ⟨g, cap', cur, hv, hbg, (hb g ?_).trans hgg, rest⟩
      obtain ⟨rfl, _, _⟩ := Value.slice.inj hv
      rfl

theorem HI.holds_base {b b' : Nat} {w : World} {x : HI} (h : x.holds b w) (hb : b' ≤ b) : x.holds b' w := by
  cases x with
  | blk g o => exact ⟨Nat.le_trans hb h.1, h.2⟩
  | row A cap e size n xs =>
    refine ⟨h.1, ?_⟩
    rcases h.2 with hn | ⟨g, cap', cur, hv, hbg, rest⟩
    · exact .inl hn
    · exact .inr ⟨g, cap', cur, hv, Nat.le_trans hb hbg, rest⟩

theorem Sat.start (w : World) : Sat w [] w := ⟨Below.refl _ _, fun _ _ h => by simp at h, fun _ _ _ _ _ h => by simp at h⟩

/-- New memory, and what is known of it, beside what was known. -/
theorem Sat.grow {w0 w w' : World} {H h : Hp} (s : Sat w0 H w) (t : Sat w h w') : Sat w0 (h ++ H) w' := by
  have old : ∀ x : HI, x.holds w0.heap.size w → x.holds w0.heap.size w' := fun x hx =>
    HI.holds_kept hx t.below.size fun g hg => t.below.block g (HI.holds_lt hx hg).2
  have cut : ∀ (i : Nat) (x : HI), (h ++ H)[i]? = some x → (i < h.length ∧ h[i]? = some x) ∨ (h.length ≤ i ∧ H[i - h.length]? = some x) := by
    intro i x hx
    rcases Nat.lt_or_ge i h.length with hi | hi
    · rw [List.getElem?_append_left hi] at hx; exact .inl ⟨hi, hx⟩
    · rw [List.getElem?_append_right hi] at hx; exact .inr ⟨hi, hx⟩
  refine ⟨s.below.trans (t.below.mono s.below.size), ?_, ?_⟩
  · intro i x hx
    rcases cut i x hx with ⟨_, hx⟩ | ⟨_, hx⟩
    · exact HI.holds_base (t.mem i x hx) s.below.size
    · exact old x (s.mem _ x hx)
  · intro i j x y hij hx hy g hg
    rcases cut i x hx with ⟨hi, hx⟩ | ⟨hi, hx⟩ <;> rcases cut j y hy with ⟨hj, hy⟩ | ⟨hj, hy⟩
    · exact t.sep i j x y hij hx hy g hg
    · have h1 := HI.holds_lt (t.mem i x hx) hg
      intro h2
      have h3 := HI.holds_lt (s.mem _ y hy) h2
      omega
    · have h1 := HI.holds_lt (s.mem _ x hx) hg
      intro h2
      have h3 := HI.holds_lt (t.mem _ y hy) h2
      omega
    · exact s.sep _ _ x y (by omega) hx hy g hg

/-- One block new. -/
theorem Sat.alloc {w0 w : World} {H : Hp} (s : Sat w0 H w) (o : Obj) : Sat w0 (.blk w.heap.size o :: H) (w.alloc o) :=
  s.grow (h := [.blk w.heap.size o]) ⟨(Below.refl _ _).alloc (Nat.le_refl _) _, fun i x h => by
      cases i with
      | zero => simp at h; subst h; exact ⟨Nat.le_refl _, heap_alloc_new w o⟩
      | succ i => simp at h,
    fun i j x y hij hx hy => by
      cases i <;> cases j <;> simp at hx hy hij⟩

/-- One known block written. -/
theorem Sat.write {w0 w w' : World} {H : Hp} (s : Sat w0 H w) {i g : Nat} {x : HI} (hi : H[i]? = some x) (hg : x.foot = some g) {y : HI}
    (hos : w'.os = w.os) (htp : w'.tape = w.tape) (hou : w'.output = w.output) (hsz : w.heap.size ≤ w'.heap.size)
    (hk : ∀ k, k < w.heap.size → k ≠ g → w'.heap[k]? = w.heap[k]?) (hy : y.holds w0.heap.size w') (hf : ∀ k, y.foot = some k → k = g ∨ w.heap.size ≤ k) : Sat w0 (H.set i y) w' := by
  have hlt := HI.holds_lt (s.mem i x hi) hg
  refine ⟨s.below.trans ⟨hos, htp, hou, hsz, fun k hkk => hk k (by omega) (by omega)⟩, ?_, ?_⟩
  · intro j z hz
    by_cases hij : i = j
    · subst hij
      rw [List.getElem?_set] at hz
      simp only [if_true] at hz
      split at hz
      · simp at hz; subst hz; exact hy
      · cases hz
    · rw [List.getElem?_set_ne hij] at hz
      have hh := s.mem j z hz
      exact HI.holds_kept hh hsz fun k hkk => hk k (HI.holds_lt hh hkk).2 fun e => s.sep i j x z hij hi hz g hg (e ▸ hkk)
  · intro j l z u hjl hz hu k hkz hku
    have get : ∀ (m : Nat) (v : HI), (H.set i y)[m]? = some v → (m = i ∧ v = y) ∨ (m ≠ i ∧ H[m]? = some v) := by
      intro m v hv
      by_cases hmi : i = m
      · subst hmi
        rw [List.getElem?_set] at hv
        simp only [if_true] at hv
        split at hv
        · simp at hv; exact .inl ⟨rfl, hv.symm⟩
        · cases hv
      · rw [List.getElem?_set_ne hmi] at hv; exact .inr ⟨fun e => hmi e.symm, hv⟩
    rcases get j z hz with ⟨rfl, rfl⟩ | ⟨hj, hz'⟩ <;> rcases get l u hu with ⟨rfl, rfl⟩ | ⟨hl, hu'⟩
    · exact hjl rfl
    · have h2 := HI.holds_lt (s.mem l u hu') hku
      rcases hf k hkz with rfl | h3
      · exact s.sep _ l x u (fun e => hl e.symm) hi hu' _ hg hku
      · omega
    · have h2 := HI.holds_lt (s.mem j z hz') hkz
      rcases hf k hku with rfl | h3
      · exact s.sep _ j x z (fun e => hj e.symm) hi hz' _ hg hkz
      · omega
    · exact s.sep j l z u hjl hz' hu' k hkz hku

/-- Only draws. -/
theorem Sat.draws {w0 w : World} {H : Hp} (s : Sat w0 H w) (n : Nat) : Sat w0 H (w.drewN n) := ⟨⟨s.below.os, s.below.tape, s.below.output, s.below.size, s.below.block⟩, fun i x h => HI.holds_kept (s.mem i x h) (Nat.le_refl _) fun _ _ => rfl, s.sep⟩

theorem nodup_inj {l : List Nat} (h : l.Nodup) {i j : Nat} (hi : i < l.length) (hj : j < l.length) (e : l[i] = l[j]) : i = j := by
  rcases Nat.lt_trichotomy i j with h1 | h1 | h1
  · exact absurd e (List.pairwise_iff_getElem.1 h i j hi hj h1)
  · exact h1
  · exact absurd e.symm (List.pairwise_iff_getElem.1 h j i hj hi h1)

/-- What is known may be forgotten, and stand in another order. -/
theorem Sat.pick {w0 w : World} {H : Hp} (s : Sat w0 H w) (l : List Nat) (hl : l.Nodup) {H' : Hp} (h : l.map (fun i => H[i]?) = H'.map some) : Sat w0 H' w := by
  have key : ∀ (j : Nat) (x : HI), H'[j]? = some x → ∃ i : Nat, l[j]? = some i ∧ H[i]? = some x := by
    intro j x hx
    have := congrArg (fun m => m[j]?) h
    simp only [List.getElem?_map, hx, Option.map_some] at this
    cases hlj : l[j]? with
    | none => rw [hlj] at this; simp at this
    | some i => rw [hlj] at this; simp at this; exact ⟨i, rfl, this⟩
  refine ⟨s.below, fun j x hx => ?_, fun i j x y hij hx hy g hg => ?_⟩
  · obtain ⟨i, _, hi⟩ := key j x hx
    exact s.mem i x hi
  · obtain ⟨i', h1, h2⟩ := key i x hx
    obtain ⟨j', h3, h4⟩ := key j y hy
    refine s.sep i' j' x y (fun e => hij ?_) h2 h4 g hg
    subst e
    have hi := (List.getElem?_eq_some_iff.1 h1)
    have hj := (List.getElem?_eq_some_iff.1 h3)
    obtain ⟨hi, e1⟩ := hi
    obtain ⟨hj, e2⟩ := hj
    exact nodup_inj hl hi hj (e1.trans e2.symm)

/-! ## Slots -/

abbrev Env := List (Nat × Value)
def look : Env → Nat → Option Value
  | [], _ => none
  | (t, v) :: ρ, s => if Nat.beq t s then some v else look ρ s

def EnvOk (ρ : Env) (tmps : Array Value) : Prop := ∀ t v, look ρ t = some v → tmps[t]? = some v

theorem EnvOk.put {ρ : Env} {tmps : Array Value} (h : EnvOk ρ tmps) (d : Nat) (v : Value) (hd : d < tmps.size) : EnvOk ((d, v) :: ρ) (tmps.setIfInBounds d v) := by
  intro t u ht
  simp only [look] at ht
  by_cases e : d = t
  · subst e
    simp at ht
    subst ht
    simp [hd]
  · have : Nat.beq d t = false := by
      cases hb : Nat.beq d t with
      | false => rfl
      | true => exact absurd (Nat.eq_of_beq_eq_true hb) e
    rw [this] at ht
    simp at ht
    have h2 := h t u ht
    simp [e, h2]

def bind (dst : Option Tmp) (v : Value) (ρ : Env) : Env :=
  match dst with
  | some d => (d, v) :: ρ
  | none => ρ

theorem EnvOk.bind {ρ : Env} {a : Act} (h : EnvOk ρ a.tmps) (dst : Option Tmp) (v : Value) (hd : ∀ d, dst = some d → d < a.tmps.size) : EnvOk (bind dst v ρ) (a.put dst v).tmps := by
  cases dst with
  | none => exact h
  | some d => exact h.put d v (hd d rfl)

def ev (ρ : Env) : Operand → Option Value
  | .tmp t => look ρ t
  | .const v => some v
  | .global g => some (.pointer (some ⟨g, 0, none⟩))
  | .func f => some (.func (.func f) #[] #[])

theorem ev_ok {ρ : Env} {a : Act} (h : EnvOk ρ a.tmps) {x : Operand} {v : Value} (hx : ev ρ x = some v) : a.eval x = v := by
  cases x with
  | tmp t =>
    have := h t v hx
    obtain ⟨h1, h2⟩ := Array.getElem?_eq_some_iff.1 this
    simp only [Act.eval, Array.getD, h1, dif_pos, h2]
    exact h2
  | const u => simp [ev] at hx; exact hx
  | global g => simp [ev] at hx; exact hx
  | func f => simp [ev] at hx; exact hx

def evs (ρ : Env) : List Operand → Option (List Value)
  | [] => some []
  | x :: l => match ev ρ x, evs ρ l with
    | some v, some r => some (v :: r)
    | _, _ => none

theorem evs_ok {ρ : Env} {a : Act} (h : EnvOk ρ a.tmps) : ∀ {l : List Operand} {r : List Value}, evs ρ l = some r → l.map a.eval = r
  | [], r, hx => by simp [evs] at hx; simp [hx]
  | x :: l, r, hx => by
    simp only [evs] at hx
    cases h1 : ev ρ x with
    | none => simp [h1] at hx
    | some v =>
      cases h2 : evs ρ l with
      | none => simp [h1, h2] at hx
      | some q =>
        simp [h1, h2] at hx
        subst hx
        simp [ev_ok h h1, evs_ok h h2]

/-! ## What is still to run -/

inductive KI where
  | code (c : Code)
  | block (id : Nat)
  | loop (c : Code)
  | scope
  | ops (ops : Array Oper) (todo : List Nat)

/-- A loop, its round about to begin. -/
def LoopWp (P : Program) (c : Code) (Q : Exit → Act → World → Prop) (a : Act) (w : World) : Prop :=
  ∀ (b : Frame) (k : List Item) (cs : List Frame), ∃ e a' w', Q e a' w' ∧ Arrives P (lone (b.at a (.code c :: .inLoop c :: k)) cs w) b k cs e a' w'

def kwp (P : Program) (F : Exit → Act → World → Prop) : List KI → Exit → Act → World → Prop
  | [], e, a, w => F e a w
  | .code c :: k, e, a, w => match e with
    | .normal => c.wp P (kwp P F k) a w
    | e => kwp P F k e a w
  | .block id :: k, e, a, w => match e with
    | .exit id' => if id' = id then kwp P F k .normal a w else kwp P F k (.exit id') a w
    | e => kwp P F k e a w
  | .loop c :: k, e, a, w => match e with
    | .normal => LoopWp P c (kwp P F k) a w
    | e => kwp P F k e a w
  | .scope :: k, e, a, w => kwp P F k e a w
  | .ops ops todo :: k, e, a, w => match e with
    | .normal => wpOps P ops (kwp P F k) todo a w
    | e => kwp P F k e a w

def popTo (id : Nat) : List KI → Option (List KI)
  | [] => none
  | .block id' :: k => if Nat.beq id' id then some k else popTo id k
  | _ :: k => popTo id k

theorem kwp_exit {P : Program} {F : Exit → Act → World → Prop} {id : Nat} {a : Act} {w : World} : ∀ {k k' : List KI}, popTo id k = some k' → kwp P F k' .normal a w → kwp P F k (.exit id) a w
  | [], _, h, _ => by simp [popTo] at h
  | .block id' :: k, k', h, hk => by
    simp only [popTo] at h
    by_cases e : id' = id
    · subst e
      simp at h
      subst h
      simp only [kwp, if_true]
      exact hk
    · have : Nat.beq id' id = false := by
        cases hb : Nat.beq id' id with
        | false => rfl
        | true => exact absurd (Nat.eq_of_beq_eq_true hb) e
      rw [this] at h
      simp at h
      simp only [kwp]
      rw [if_neg (fun h => e h.symm)]
      exact kwp_exit h hk
  | .code c :: k, k', h, hk => by simp only [kwp]; exact kwp_exit (by simpa [popTo] using h) hk
  | .loop c :: k, k', h, hk => by simp only [kwp]; exact kwp_exit (by simpa [popTo] using h) hk
  | .scope :: k, k', h, hk => by simp only [kwp]; exact kwp_exit (by simpa [popTo] using h) hk
  | .ops o t :: k, k', h, hk => by simp only [kwp]; exact kwp_exit (by simpa [popTo] using h) hk

theorem kwp_ret {P : Program} {F : Exit → Act → World → Prop} {a : Act} {w : World} : ∀ {k : List KI}, F .ret a w → kwp P F k .ret a w
  | [], h => h
  | .block _ :: k, h => by simp only [kwp]; exact kwp_ret h
  | .code _ :: k, h => by simp only [kwp]; exact kwp_ret h
  | .loop _ :: k, h => by simp only [kwp]; exact kwp_ret h
  | .scope :: k, h => by simp only [kwp]; exact kwp_ret h
  | .ops _ _ :: k, h => by simp only [kwp]; exact kwp_ret h

/-- What a call comes to: a value, and what is known of new memory; all else stands. -/
def Fn (P : Program) (f : FuncId) (args : Array Value) (w : World) (R : Value → Hp → Prop) : Prop :=
  Calls P f args w fun e w' => ∃ v h, e = .returned v ∧ Sat w h w' ∧ R v h

def fin (P : Program) (fn : Func) (w0 : World) (R : Value → Hp → Prop) : Exit → Act → World → Prop :=
  bodyPost P fn fun e w' => ∃ v h, e = .returned v ∧ Sat w0 h w' ∧ R v h

def Run (P : Program) (fn : Func) (w0 : World) (k : List KI) (ρ : Env) (H : Hp) (R : Value → Hp → Prop) : Prop :=
  ∀ a w, EnvOk ρ a.tmps → a.tmps.size = fn.ntmps → a.defers = [] → Sat w0 H w → kwp P (fin P fn w0 R) k .normal a w

section
variable {P : Program} {fn : Func} {w0 : World} {k : List KI} {ρ : Env} {H : Hp} {R : Value → Hp → Prop}

def envOf : List Value → Nat → Env
  | [], _ => []
  | v :: l, i => (i, v) :: envOf l (i + 1)

theorem envOf_ok (l : List Value) (i : Nat) (tmps : Array Value) (h : ∀ j, j < l.length → tmps[i + j]? = l[j]?) : EnvOk (envOf l i) tmps := by
  induction l generalizing i with
  | nil => intro t v ht; simp [envOf, look] at ht
  | cons x l ih =>
    intro t v ht
    simp only [envOf, look] at ht
    by_cases e : i = t
    · subst e
      simp at ht
      subst ht
      simpa using h 0 (by simp)
    · have : Nat.beq i t = false := by
        cases hb : Nat.beq i t with
        | false => rfl
        | true => exact absurd (Nat.eq_of_beq_eq_true hb) e
      rw [this] at ht
      simp at ht
      refine ih (i + 1) (fun j hj => ?_) t v ht
      have := h (j + 1) (by simpa using hj)
      rw [show i + 1 + j = i + (j + 1) by omega]
      simpa using this

theorem fn_of_run {f : FuncId} {args : Array Value} {c : Code} (hf : P.funcs[f]? = some fn) (hb : fn.body = some c) (hn : Nat.ble args.size fn.ntmps = true)
    (h : Run P fn w0 [.code c] (envOf args.toList 0) [] R) : Fn P f args w0 R := by
  refine calls_of_wp hf hb (h _ _ ?_ ?_ rfl (Sat.start _))
  · refine envOf_ok _ _ _ fun j hj => ?_
    rw [Array.length_toList] at hj
    simp only [Nat.zero_add, Array.getElem?_toList]
    rw [Array.getElem?_append_left hj]
  · have := Nat.le_of_ble_eq_true hn
    simp
    omega

theorem run_code {c : Code} (h : ∀ a w, EnvOk ρ a.tmps → a.tmps.size = fn.ntmps → a.defers = [] → Sat w0 H w → c.wp P (kwp P (fin P fn w0 R) k) a w) : Run P fn w0 (.code c :: k) ρ H R := h

def Code.sub : Code → Nat → Code
  | .seq a _, 0 => a
  | .seq _ b, _ => b
  | .cond _ a _, 0 => a
  | .cond _ _ b, _ => b
  | .block _ c, _ => c
  | .loop c, _ => c
  | .scope c, _ => c
  | c, _ => c

inductive CK where
  | skip | seq | cond (x : Operand) | block (id : Nat) | loop | exit (id : Nat) | scope | label | ret | region (ops : Array Oper) (draw : Bool) | other

def Code.kind : Code → CK
  | .skip => .skip
  | .seq _ _ => .seq
  | .cond x _ _ => .cond x
  | .block id _ => .block id
  | .loop _ => .loop
  | .exit id => .exit id
  | .scope _ => .scope
  | .label _ => .label
  | .ret => .ret
  | .region _ ops d => .region ops d
  | _ => .other

theorem run_seq {c : Code} (hc : Code.kind c = .seq) (h : Run P fn w0 (.code (Code.sub c 0) :: .code (Code.sub c 1) :: k) ρ H R) : Run P fn w0 (.code c :: k) ρ H R := by
  cases c <;> simp [Code.kind] at hc
  intro a w h1 h2 h3 h4
  refine wp_seq (wp_mono (h a w h1 h2 h3 h4) fun e a w hq => ?_)
  cases e <;> exact hq

theorem run_skip {c : Code} (hc : Code.kind c = .skip) (h : Run P fn w0 k ρ H R) : Run P fn w0 (.code c :: k) ρ H R := by
  cases c <;> simp [Code.kind] at hc
  exact fun a w h1 h2 h3 h4 => wp_skip (h a w h1 h2 h3 h4)

theorem run_label {c : Code} (hc : Code.kind c = .label) (h : Run P fn w0 k ρ H R) : Run P fn w0 (.code c :: k) ρ H R := by
  cases c <;> simp [Code.kind] at hc
  exact fun a w h1 h2 h3 h4 => wp_label (h a w h1 h2 h3 h4)

theorem run_block {c : Code} {id : Nat} (hc : Code.kind c = .block id) (h : Run P fn w0 (.code (Code.sub c 0) :: .block id :: k) ρ H R) : Run P fn w0 (.code c :: k) ρ H R := by
  cases c <;> simp [Code.kind] at hc
  subst hc
  intro a w h1 h2 h3 h4
  refine wp_block (wp_mono (h a w h1 h2 h3 h4) fun e a w hq => ?_)
  cases e <;> exact hq

theorem run_endblock {id : Nat} (h : Run P fn w0 k ρ H R) : Run P fn w0 (.block id :: k) ρ H R := h

theorem run_exit {c : Code} {id : Nat} {k' : List KI} (hc : Code.kind c = .exit id) (hk : popTo id k = some k') (h : Run P fn w0 k' ρ H R) : Run P fn w0 (.code c :: k) ρ H R := by
  cases c <;> simp [Code.kind] at hc
  subst hc
  exact fun a w h1 h2 h3 h4 => wp_exit (kwp_exit hk (h a w h1 h2 h3 h4))

theorem run_cond {c : Code} {x : Operand} {t : Bool} (hc : Code.kind c = .cond x) (hx : ev ρ x = some (.bool t)) (h : Run P fn w0 (.code (Code.sub c (if t then 0 else 1)) :: k) ρ H R) : Run P fn w0 (.code c :: k) ρ H R := by
  cases c <;> simp [Code.kind] at hc
  subst hc
  intro a w h1 h2 h3 h4
  refine wp_cond (t := t) (ev_ok h1 hx) ?_
  have := h a w h1 h2 h3 h4
  cases t <;> exact this

theorem run_true {c : Code} {x : Operand} (hc : Code.kind c = .cond x) (hx : ev ρ x = some (.bool true)) (h : Run P fn w0 (.code (Code.sub c 0) :: k) ρ H R) : Run P fn w0 (.code c :: k) ρ H R :=
  run_cond hc hx h
theorem run_false {c : Code} {x : Operand} (hc : Code.kind c = .cond x) (hx : ev ρ x = some (.bool false)) (h : Run P fn w0 (.code (Code.sub c 1) :: k) ρ H R) : Run P fn w0 (.code c :: k) ρ H R :=
  run_cond hc hx h
theorem run_if {c : Code} {x : Operand} {t : Bool} (hc : Code.kind c = .cond x) (hx : ev ρ x = some (.bool t)) (ht : t = true → Run P fn w0 (.code (Code.sub c 0) :: k) ρ H R) (hf : t = false → Run P fn w0 (.code (Code.sub c 1) :: k) ρ H R) : Run P fn w0 (.code c :: k) ρ H R := by
  cases t
  · exact run_cond hc hx (hf rfl)
  · exact run_cond hc hx (ht rfl)

theorem loop_enter {c : Code} {Q : Exit → Act → World → Prop} {a : Act} {w : World} (h : LoopWp P c Q a w) : (Code.loop c).wp P Q a w :=
  fun b k cs => let ⟨e, a', w', q, r⟩ := h b k cs; ⟨e, a', w', q, .of_steps (.one step_loop) r⟩

theorem loop_again {c : Code} {Q : Exit → Act → World → Prop} {a : Act} {w : World} (h : c.wp P (Exit.then (LoopWp P c Q) Q) a w) : LoopWp P c Q a w := by
  intro b k cs
  obtain ⟨e, a₁, w₁, hq, harr⟩ := h b (.inLoop c :: k) cs
  cases e with
  | normal =>
    obtain ⟨e₂, a₂, w₂, hq₂, harr₂⟩ := hq b k cs
    exact ⟨e₂, a₂, w₂, hq₂, .of_steps (Steps.trans harr (.one step_inLoop)) harr₂⟩
  | exit id => exact ⟨_, a₁, w₁, hq, .pass (x := .inLoop c) rfl (fun _ _ => .inl (by simp)) harr⟩
  | goto l => exact ⟨_, a₁, w₁, hq, .pass (x := .inLoop c) rfl (fun _ _ => .inl (by simp)) harr⟩
  | ret => exact ⟨_, a₁, w₁, hq, .pass (x := .inLoop c) rfl (fun _ _ => .inl (by simp)) harr⟩
  | panic ch => exact ⟨_, a₁, w₁, hq, .pass (x := .inLoop c) rfl (fun _ _ => .inl (by simp)) harr⟩
  | outgrown => exact ⟨_, a₁, w₁, hq, .pass (x := .inLoop c) rfl (fun _ _ => .inl (by simp)) harr⟩

theorem run_loop {c : Code} (hc : Code.kind c = .loop) (h : Run P fn w0 (.loop (Code.sub c 0) :: k) ρ H R) : Run P fn w0 (.code c :: k) ρ H R := by
  cases c <;> simp [Code.kind] at hc
  exact fun a w h1 h2 h3 h4 => loop_enter (h a w h1 h2 h3 h4)

theorem run_again {c : Code} (h : Run P fn w0 (.code c :: .loop c :: k) ρ H R) : Run P fn w0 (.loop c :: k) ρ H R := by
  intro a w h1 h2 h3 h4
  refine loop_again (wp_mono (h a w h1 h2 h3 h4) fun e a w hq => ?_)
  cases e <;> exact hq

theorem run_region {c : Code} {ops : Array Oper} {todo : List Nat} (hc : Code.kind c = .region ops false) (hl : List.range ops.size = todo) (h : Run P fn w0 (.ops ops todo :: k) ρ H R) : Run P fn w0 (.code c :: k) ρ H R := by
  cases c <;> simp [Code.kind] at hc
  obtain ⟨rfl, rfl⟩ := hc
  subst hl
  exact fun a w h1 h2 h3 h4 => wp_region (h a w h1 h2 h3 h4)

theorem run_endops {ops : Array Oper} (h : Run P fn w0 k ρ H R) : Run P fn w0 (.ops ops [] :: k) ρ H R := h

/-- Forgetting. -/
theorem run_weak {ρ' : Env} {H' : Hp} (h : Run P fn w0 k ρ' H' R) (hρ : ∀ t v, look ρ' t = some v → look ρ t = some v) (l : List Nat) (hl : l.Nodup) (hH : l.map (fun i => H[i]?) = H'.map some) : Run P fn w0 k ρ H R :=
  fun a w h1 h2 h3 h4 => h a w (fun t v ht => h1 t v (hρ t v ht)) h2 h3 (h4.pick l hl hH)

theorem run_env {ρ' : Env} (h : Run P fn w0 k ρ' H R) (hρ : ∀ t v, look ρ' t = some v → look ρ t = some v) : Run P fn w0 k ρ H R :=
  fun a w h1 h2 h3 h4 => h a w (fun t v ht => h1 t v (hρ t v ht)) h2 h3 h4

theorem look_sub {ρ ρ' : Env} (h : ∀ x ∈ ρ', look ρ x.1 = some x.2) : ∀ t v, look ρ' t = some v → look ρ t = some v := by
  intro t v ht
  induction ρ' with
  | nil => simp [look] at ht
  | cons x l ih =>
    obtain ⟨s, u⟩ := x
    simp only [look] at ht
    by_cases e : s = t
    · subst e
      simp at ht
      subst ht
      exact h (s, u) (by simp)
    · have : Nat.beq s t = false := by
        cases hb : Nat.beq s t with
        | false => rfl
        | true => exact absurd (Nat.eq_of_beq_eq_true hb) e
      rw [this] at ht
      simp at ht
      exact ih (fun y hy => h y (by simp [hy])) ht

/-- An operation that only reads. -/
def Rdo (P : Program) (w0 : World) (H : Hp) {α : Type} (s : Sem α) (v : α) : Prop := ∀ w, Sat w0 H w → s.run P w = .ok v w

def readOne (tmps : Array Value) : ResultVar → Sem Value
  | .tmp t => pure (tmps.getD t undef)
  | .cell a t => do loadVar t (← asAddr (tmps.getD a undef))

def ResV (P : Program) (w0 : World) (ρ : Env) (H : Hp) : ResultVar → Value → Prop
  | .tmp t, v => look ρ t = some v
  | .cell a t, v => ∃ p, look ρ a = some (.pointer (some p)) ∧ Rdo P w0 H (loadVar t p) v

theorem readOne_run {r : ResultVar} {v : Value} (hr : ResV P w0 ρ H r v) {a : Act} {w : World} (h1 : EnvOk ρ a.tmps) (h4 : Sat w0 H w) : (readOne a.tmps r).run P w = .ok v w := by
  cases r with
  | tmp t =>
    have := ev_ok h1 (x := .tmp t) hr
    simp only [Act.eval] at this
    simp only [readOne, this]
    rfl
  | cell t T =>
    obtain ⟨p, hp, hv⟩ := hr
    have := ev_ok h1 (x := .tmp t) hp
    simp only [Act.eval] at this
    simp only [readOne, this]
    exact hv w h4

theorem run_ret {c : Code} {v : Value} (hc : Code.kind c = .ret) (hv : ∀ (a : Act) (w : World), EnvOk ρ a.tmps → Sat w0 H w → (results fn a.tmps).run P w = .ok v w) (h : R v H) : Run P fn w0 (.code c :: k) ρ H R := by
  cases c <;> simp [Code.kind] at hc
  exact fun a w h1 h2 h3 h4 => wp_ret (kwp_ret ⟨h3, v, hv a w h1 h4, v, H, rfl, h4, h⟩)
theorem run_fall {v : Value} (hv : ∀ (a : Act) (w : World), EnvOk ρ a.tmps → Sat w0 H w → (results fn a.tmps).run P w = .ok v w) (h : R v H) : Run P fn w0 [] ρ H R :=
  fun a w h1 _ h3 h4 => ⟨h3, v, hv a w h1 h4, v, H, rfl, h4, h⟩

theorem results_eq (tmps : Array Value) : results fn tmps = (do let vs ← fn.results.mapM (readOne tmps); pure (if h : vs.size = 1 then vs[0] else .tuple vs)) := by
  unfold results
  congr 2

theorem res1 {r : ResultVar} {v : Value} (hr : fn.results = #[r]) (hv : ResV P w0 ρ H r v) : ∀ (a : Act) (w : World), EnvOk ρ a.tmps → Sat w0 H w → (results fn a.tmps).run P w = .ok v w := by
  intro a w h1 h4
  have h := readOne_run hv h1 h4
  rw [results_eq, hr]
  simp [h]
theorem res2 {r s : ResultVar} {v u : Value} (hr : fn.results = #[r, s]) (hv : ResV P w0 ρ H r v) (hu : ResV P w0 ρ H s u) : ∀ (a : Act) (w : World), EnvOk ρ a.tmps → Sat w0 H w → (results fn a.tmps).run P w = .ok (.tuple #[v, u]) w := by
  intro a w h1 h4
  have h := readOne_run hv h1 h4
  have h' := readOne_run hu h1 h4
  rw [results_eq, hr]
  simp [h, h']
theorem res3 {r s t : ResultVar} {v u x : Value} (hr : fn.results = #[r, s, t]) (hv : ResV P w0 ρ H r v) (hu : ResV P w0 ρ H s u) (hx : ResV P w0 ρ H t x) : ∀ (a : Act) (w : World), EnvOk ρ a.tmps → Sat w0 H w → (results fn a.tmps).run P w = .ok (.tuple #[v, u, x]) w := by
  intro a w h1 h4
  have h := readOne_run hv h1 h4
  have h' := readOne_run hu h1 h4
  have h'' := readOne_run hx h1 h4
  rw [results_eq, hr]
  simp [h, h', h'']
theorem res0 (hr : fn.results = #[]) : ∀ (a : Act) (w : World), EnvOk ρ a.tmps → Sat w0 H w → (results fn a.tmps).run P w = .ok (.tuple #[]) w := by
  intro a w h1 h4
  rw [results_eq, hr]
  simp

end
end Go.Proofs.YthapghhmeicbnaaDoor
