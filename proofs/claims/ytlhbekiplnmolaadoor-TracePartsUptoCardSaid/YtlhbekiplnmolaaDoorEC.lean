/- The machine's side, told once: what is still to run; control; regions in the order of the text. -/
import Derived.Test.YtlhbekiplnmolaaDoorEBp
set_option linter.unusedVariables false
set_option linter.unusedSimpArgs false
namespace Go.Proofs.YtlhbekiplnmolaaDoor
open Go.RowKit

inductive KI where
  | code (c : Code)
  | block (id : Nat)
  | loop (c : Code)
  | scope
  | ops (ops : Array Oper) (todo : List Nat)

/-- A loop, its round about to begin. -/
def LoopWp (P : Program) (c : Code) (Q : Exit → Act → World → Prop) (a : Act) (w : World) : Prop :=
  ∀ (b : Frame) (k : List Item) (cs : List Frame), ∃ e a' w', Q e a' w' ∧ Arrives P (lone (b.at a (.code c :: .inLoop c :: k)) cs w) b k cs e a' w'

def kwp (P : Program) (F : Exit → Act → World → Prop) : List KI → Exit → Act → World → Prop
  | [], e, a, w => F e a w
  | .code c :: k, e, a, w => match e with
    | .normal => c.wp P (kwp P F k) a w
    | e => kwp P F k e a w
  | .block id :: k, e, a, w => match e with
    | .exit id' => if id' = id then kwp P F k .normal a w else kwp P F k (.exit id') a w
    | e => kwp P F k e a w
  | .loop c :: k, e, a, w => match e with
    | .normal => LoopWp P c (kwp P F k) a w
    | e => kwp P F k e a w
  | .scope :: k, e, a, w => kwp P F k e a w
  | .ops ops todo :: k, e, a, w => match e with
    | .normal => wpOps P ops (kwp P F k) todo a w
    | e => kwp P F k e a w

def popTo (id : Nat) : List KI → Option (List KI)
  | [] => none
  | .block id' :: k => if Nat.beq id' id then some k else popTo id k
  | _ :: k => popTo id k

theorem kwp_exit {P : Program} {F : Exit → Act → World → Prop} {id : Nat} {a : Act} {w : World} : ∀ {k k' : List KI}, popTo id k = some k' → kwp P F k' .normal a w → kwp P F k (.exit id) a w
  | [], _, h, _ => by simp [popTo] at h
  | .block id' :: k, k', h, hk => by
    simp only [popTo] at h
    by_cases e : id' = id
    · subst e
      simp at h
      subst h
      simp only [kwp, if_true]
      exact hk
    · have : Nat.beq id' id = false := by
        cases hb : Nat.beq id' id with
        | false => rfl
        | true => exact absurd (Nat.eq_of_beq_eq_true hb) e
      rw [this] at h
      simp at h
      simp only [kwp]
      rw [if_neg (fun h => e h.symm)]
      exact kwp_exit h hk
  | .code c :: k, k', h, hk => by simp only [kwp]; exact kwp_exit (by simpa [popTo] using h) hk
  | .loop c :: k, k', h, hk => by simp only [kwp]; exact kwp_exit (by simpa [popTo] using h) hk
  | .scope :: k, k', h, hk => by simp only [kwp]; exact kwp_exit (by simpa [popTo] using h) hk
  | .ops o t :: k, k', h, hk => by simp only [kwp]; exact kwp_exit (by simpa [popTo] using h) hk

theorem kwp_ret {P : Program} {F : Exit → Act → World → Prop} {a : Act} {w : World} : ∀ {k : List KI}, F .ret a w → kwp P F k .ret a w
  | [], h => h
  | .block _ :: k, h => by simp only [kwp]; exact kwp_ret h
  | .code _ :: k, h => by simp only [kwp]; exact kwp_ret h
  | .loop _ :: k, h => by simp only [kwp]; exact kwp_ret h
  | .scope :: k, h => by simp only [kwp]; exact kwp_ret h
  | .ops _ _ :: k, h => by simp only [kwp]; exact kwp_ret h

def Code.sub : Code → Nat → Code
  | .seq a _, 0 => a
  | .seq _ b, _ => b
  | .cond _ a _, 0 => a
  | .cond _ _ b, _ => b
  | .block _ c, _ => c
  | .loop c, _ => c
  | .scope c, _ => c
  | c, _ => c

inductive CK where
  | skip | seq | cond (x : Operand) | block (id : Nat) | loop | exit (id : Nat) | scope | label | ret | region (ops : Array Oper) (draw : Bool) | other

def Code.kind : Code → CK
  | .skip => .skip
  | .seq _ _ => .seq
  | .cond x _ _ => .cond x
  | .block id _ => .block id
  | .loop _ => .loop
  | .exit id => .exit id
  | .scope _ => .scope
  | .label _ => .label
  | .ret => .ret
  | .region _ ops d => .region ops d
  | _ => .other

theorem loop_enter {P : Program} {c : Code} {Q : Exit → Act → World → Prop} {a : Act} {w : World} (h : LoopWp P c Q a w) : (Code.loop c).wp P Q a w :=
  fun b k cs => let ⟨e, a', w', q, r⟩ := h b k cs; ⟨e, a', w', q, .of_steps (.one step_loop) r⟩

theorem loop_again {P : Program} {c : Code} {Q : Exit → Act → World → Prop} {a : Act} {w : World} (h : c.wp P (Exit.then (LoopWp P c Q) Q) a w) : LoopWp P c Q a w := by
  intro b k cs
  obtain ⟨e, a₁, w₁, hq, harr⟩ := h b (.inLoop c :: k) cs
  cases e with
  | normal =>
    obtain ⟨e₂, a₂, w₂, hq₂, harr₂⟩ := hq b k cs
    exact ⟨e₂, a₂, w₂, hq₂, .of_steps (Steps.trans harr (.one step_inLoop)) harr₂⟩
  | exit id => exact ⟨_, a₁, w₁, hq, .pass (x := .inLoop c) rfl (fun _ _ => .inl (by simp)) harr⟩
  | goto l => exact ⟨_, a₁, w₁, hq, .pass (x := .inLoop c) rfl (fun _ _ => .inl (by simp)) harr⟩
  | ret => exact ⟨_, a₁, w₁, hq, .pass (x := .inLoop c) rfl (fun _ _ => .inl (by simp)) harr⟩
  | panic ch => exact ⟨_, a₁, w₁, hq, .pass (x := .inLoop c) rfl (fun _ _ => .inl (by simp)) harr⟩
  | outgrown => exact ⟨_, a₁, w₁, hq, .pass (x := .inLoop c) rfl (fun _ _ => .inl (by simp)) harr⟩

def readOne (tmps : Array Value) : ResultVar → Sem Value
  | .tmp t => pure (tmps.getD t undef)
  | .cell a t => do loadVar t (← asAddr (tmps.getD a undef))

theorem results_eq (fn : Func) (tmps : Array Value) : results fn tmps = (do let vs ← fn.results.mapM (readOne tmps); pure (if h : vs.size = 1 then vs[0] else .tuple vs)) := by
  unfold results
  congr 2

/-- What is to be shown of a body that is still to run. -/
def Run (P : Program) (fn : Func) {n0 : Nat} (b : Base n0) (R : Exit → Act → World → Prop) (k : List KI) (ρ : AEnv) (H : AStore) : Prop :=
  ∀ a w, St P b ρ H a.tmps w → a.tmps.size = fn.ntmps → a.defers = [] → kwp P R k .normal a w

section
variable {P : Program} {fn : Func} {n0 : Nat} {b : Base n0} {R : Exit → Act → World → Prop} {k : List KI} {ρ : AEnv} {H : AStore}

theorem run_seq {c : Code} (hc : Code.kind c = .seq) (h : Run P fn b R (.code (Code.sub c 0) :: .code (Code.sub c 1) :: k) ρ H) : Run P fn b R (.code c :: k) ρ H := by
  cases c <;> simp [Code.kind] at hc
  intro a w h1 h2 h3
  refine wp_seq (wp_mono (h a w h1 h2 h3) fun e a w hq => ?_)
  cases e <;> exact hq
theorem run_skip {c : Code} (hc : Code.kind c = .skip) (h : Run P fn b R k ρ H) : Run P fn b R (.code c :: k) ρ H := by
  cases c <;> simp [Code.kind] at hc
  exact fun a w h1 h2 h3 => wp_skip (h a w h1 h2 h3)
theorem run_label {c : Code} (hc : Code.kind c = .label) (h : Run P fn b R k ρ H) : Run P fn b R (.code c :: k) ρ H := by
  cases c <;> simp [Code.kind] at hc
  exact fun a w h1 h2 h3 => wp_label (h a w h1 h2 h3)
theorem run_block {c : Code} {id : Nat} (hc : Code.kind c = .block id) (h : Run P fn b R (.code (Code.sub c 0) :: .block id :: k) ρ H) : Run P fn b R (.code c :: k) ρ H := by
  cases c <;> simp [Code.kind] at hc
  subst hc
  intro a w h1 h2 h3
  refine wp_block (wp_mono (h a w h1 h2 h3) fun e a w hq => ?_)
  cases e <;> exact hq
theorem run_endblock {id : Nat} (h : Run P fn b R k ρ H) : Run P fn b R (.block id :: k) ρ H := h
theorem run_exit {c : Code} {id : Nat} {k' : List KI} (hc : Code.kind c = .exit id) (hk : popTo id k = some k') (h : Run P fn b R k' ρ H) : Run P fn b R (.code c :: k) ρ H := by
  cases c <;> simp [Code.kind] at hc
  subst hc
  exact fun a w h1 h2 h3 => wp_exit (kwp_exit hk (h a w h1 h2 h3))
theorem run_cond {c : Code} {x : Operand} {t : Bool} (hc : Code.kind c = .cond x) (hx : evA P ρ 0 x = some (.v .bool t)) (h : Run P fn b R (.code (Code.sub c (if t then 0 else 1)) :: k) ρ H) : Run P fn b R (.code c :: k) ρ H := by
  cases c <;> simp [Code.kind] at hc
  subst hc
  intro a w h1 h2 h3
  obtain ⟨M, φ, ξ, g1, g2⟩ := h1
  have hv := bool_val (evA_ok g2 hx)
  refine wp_cond (t := t) hv ?_
  have := h a w ⟨M, φ, ξ, g1, g2⟩ h2 h3
  cases t <;> exact this
theorem run_if {c : Code} {x : Operand} {t : Bool} (hc : Code.kind c = .cond x) (hx : evA P ρ 0 x = some (.v .bool t)) (ht : t = true → Run P fn b R (.code (Code.sub c 0) :: k) ρ H) (hf : t = false → Run P fn b R (.code (Code.sub c 1) :: k) ρ H) : Run P fn b R (.code c :: k) ρ H := by
  cases t
  · exact run_cond hc hx (hf rfl)
  · exact run_cond hc hx (ht rfl)
theorem run_loop {c : Code} (hc : Code.kind c = .loop) (h : Run P fn b R (.loop (Code.sub c 0) :: k) ρ H) : Run P fn b R (.code c :: k) ρ H := by
  cases c <;> simp [Code.kind] at hc
  exact fun a w h1 h2 h3 => loop_enter (h a w h1 h2 h3)
theorem run_again {c : Code} (h : Run P fn b R (.code c :: .loop c :: k) ρ H) : Run P fn b R (.loop c :: k) ρ H := by
  intro a w h1 h2 h3
  refine loop_again (wp_mono (h a w h1 h2 h3) fun e a w hq => ?_)
  cases e <;> exact hq

/-- What is known, seen in another way. -/
theorem run_st {ρ' : AEnv} {H' : AStore} (h : Run P fn b R k ρ' H') (hs : ∀ tmps w, St P b ρ H tmps w → St P b ρ' H' tmps w) : Run P fn b R k ρ H :=
  fun a w h1 h2 h3 => h a w (hs _ _ h1) h2 h3

/-! ### Regions -/
def gdE (ops : Array Oper) (o : Oper) (ρ : AEnv) : Option Bool :=
  match o.guard with
  | none => some true
  | some (j, want) => match ops[j]? with
    | some p => match p.dst with
      | some d => match look ρ d with
        | some (.v .bool z) => match z with
          | true => some want
          | false => some (!want)
        | some .undef => some false
        | _ => none
      | none => none
    | none => none

/-- What an operation comes to, a call within. -/
def Yld (P : Program) (o : Oper) (a : Act) (w : World) (Q : Value → World → Prop) : Prop :=
  (∃ v w', (execOp a.eval o).run P w = .ok (.value v) w' ∧ Q v w') ∨ (∃ w', (execOp a.eval o).run P w = .ok .skip w' ∧ Q undef w') ∨ (∃ f args, (execOp a.eval o).run P w = .ok (.enter f args) w ∧ Calls P f args w fun e w' => ∃ v, e = .returned v ∧ Q v w')
def DoesC (P : Program) {n0 : Nat} (b : Base n0) (ρ : AEnv) (H : AStore) (o : Oper) (β : AVal) (H' : AStore) (L : Nat) : Prop :=
  ∀ M φ ξ w (a : Act), Core P b M φ ξ H w → EnvR P M φ ρ a.tmps → Yld P o a w fun v w' => ∃ M' φ' ξ', Core P b M' φ' ξ' H' w' ∧ EnvR P M' φ' ρ a.tmps ∧ Later L M M' φ φ' ∧ RelV P M' φ' β v
theorem Does.toC {o : Oper} {β : AVal} {H' : AStore} {L : Nat} (h : Does P b ρ H o β H' L) : DoesC P b ρ H o β H' L := fun M φ ξ w a hc he => by
  obtain ⟨M', φ', ξ', w', v, k1, k2, k3, k5, k4⟩ := h M φ ξ w a hc he
  rcases k1 with k1 | ⟨rfl, k1⟩
  · exact .inl ⟨v, w', k1, M', φ', ξ', k2, k3, k5, k4⟩
  · exact .inr (.inl ⟨w', k1, M', φ', ξ', k2, k3, k5, k4⟩)

/-- What is said of a call: what its callee takes, what it gives. -/
structure Orc where
  ps : List PSh
  β : AVal
  m : Option (List Nat × AStore)
def callA (P : Program) (H : AStore) (l : List AVal) (q : Orc) : AVal → PR
  | .clo f caps => match argL P H q.ps (l ++ caps) with
    | some (l', z, C) => if (!z || q.β.flatB) && q.β.labs.isEmpty then some (q.β, C ++ [Pure P f l' q.β]) else none
    | none => none
  | .v (.fn s t) p => match l, q.β with
    | [.v s' x], .v t' y => if h : s' = s ∧ t' = t then some (.v t' y, [p (h.1 ▸ x) = some (h.2 ▸ y)]) else none
    | _, _ => none
  | _ => none
theorem does_callM {fx : Operand} {xs : Array Operand} {ts : Array TypeId} {ts' : List TypeId} {l : List AVal} {α β : AVal} {q : Orc} {C : List Prop} {ty : TypeId} {dst pos after guard} (hf : evA P ρ 0 fx = some α) (hl : evL P ρ (ts'.zip xs.toList) = some l) (ht : ts'.length = xs.toList.length) (h : callA P H l q α = some (β, C)) (hC : AllP C) :
    ∀ M φ ξ w (a : Act), Core P b M φ ξ H w → EnvR P M φ ρ a.tmps → Yld P ⟨dst, .call ⟨.value fx, xs, ts⟩, ty, pos, after, guard⟩ a w fun v w' => ∃ M', Core P b M' φ ξ H w' ∧ M.le M' ∧ RelV P M' φ β v := by
  intro M φ ξ w a hc he
  have hu := evA_ok he hf
  have hr := evL_ok he hl
  rw [zip_map a.eval _ _ ht] at hr
  have e2 : xs.map a.eval = (xs.toList.map a.eval).toArray := by apply Array.ext'; simp
  have enter : ∀ {f : FuncId} {cap : Array Value}, a.eval fx = .func (.func f) #[] cap → Enters P f → (execOp a.eval ⟨dst, .call ⟨.value fx, xs, ts⟩, ty, pos, after, guard⟩).run P w = .ok (.enter f ((xs.toList.map a.eval).toArray ++ cap)) w := by
    intro f cap e h
    simp only [execOp, resolve, e, Deferred.ofValue, Sem.run_bind, Sem.run_pure, Result.andThen_ok, invoke]
    rw [e2, Array.empty_append]
    exact h _ _
  unfold callA at h
  split at h
  · rename_i f caps
    split at h
    · rename_i l' z C' ha
      split at h
      · rename_i hh
        simp only [Bool.and_eq_true, Bool.or_eq_true, Bool.not_eq_true', List.isEmpty_iff] at hh
        simp only [Option.some.injEq, Prod.mk.injEq] at h
        obtain ⟨rfl, rfl⟩ := h
        obtain ⟨c1, c2, _⟩ := AllP.app hC
        obtain ⟨us, e, hr2⟩ := hu
        have hz : z = true → q.β.flatB = true := fun hz => by
          rcases hh.1 with k | k
          · rw [hz] at k; cases k
          · exact k
        have := call_pure hc ha c1 (relVs_app hr hr2) c2 hz hh.2
        refine .inr (.inr ⟨f, _, enter e c2.1, ?_⟩)
        have e3 : (xs.toList.map a.eval).toArray ++ us.toArray = (xs.toList.map a.eval ++ us).toArray := by simp
        rw [e3]
        refine this.mono ?_
        rintro e w' ⟨M', v, rfl, k1, k2, k3⟩
        exact ⟨v, rfl, M', k1, k2, k3⟩
      · cases h
    · cases h
  · rename_i s t p
    split at h
    · rename_i s' x t' y hq
      split at h
      · rename_i hh
        obtain ⟨e1, e4⟩ := hh
        subst e1 e4
        simp only [Option.some.injEq, Prod.mk.injEq] at h
        obtain ⟨rfl, rfl⟩ := h
        obtain ⟨v, r, hv, h1, h2⟩ := hr
        simp only [RelVs] at h2
        subst h2
        obtain ⟨f, cap, e5, h0, h3⟩ := call_fn hc hu h1 hC.1
        refine .inr (.inr ⟨f, _, enter e5 h0, ?_⟩)
        rw [hv]
        refine h3.mono ?_
        rintro e w' ⟨M', v, rfl, k1, k2, k3⟩
        exact ⟨v, rfl, M', k1, k2, k3⟩
      · cases h
    · cases h
  · cases h

theorem does_call {L : Nat} {fx : Operand} {xs : Array Operand} {ts : Array TypeId} {ts' : List TypeId} {l : List AVal} {α β : AVal} {q : Orc} {C : List Prop} {ty : TypeId} {dst pos after guard} (hf : evA P ρ 0 fx = some α) (hl : evL P ρ (ts'.zip xs.toList) = some l) (ht : ts'.length = xs.toList.length) (h : callA P H l q α = some (β, C)) (hC : AllP C) :
    DoesC P b ρ H ⟨dst, .call ⟨.value fx, xs, ts⟩, ty, pos, after, guard⟩ β H L := fun M φ ξ w a hc he => by
  rcases does_callM (ts := ts) (ty := ty) (dst := dst) (pos := pos) (after := after) (guard := guard) hf hl ht h hC M φ ξ w a hc he with ⟨v, w', h1, M', h2, h3, h4⟩ | ⟨w', h1, M', h2, h3, h4⟩ | ⟨f, args, h1, h2⟩
  · exact .inl ⟨v, w', h1, M', φ, ξ, h2, he.mono h3, ⟨h3, fun _ _ => rfl⟩, h4⟩
  · exact .inr (.inl ⟨w', h1, M', φ, ξ, h2, he.mono h3, ⟨h3, fun _ _ => rfl⟩, h4⟩)
  · refine .inr (.inr ⟨f, args, h1, h2.mono ?_⟩)
    rintro e w' ⟨v, rfl, M', h2, h3, h4⟩
    exact ⟨v, rfl, M', φ, ξ, h2, he.mono h3, ⟨h3, fun _ _ => rfl⟩, h4⟩

theorem does_mut {fx : Operand} {xs : Array Operand} {ts : Array TypeId} {ts' : List TypeId} {l : List AVal} {α β β0 : AVal} {ps : List PSh} {sg : List Nat} {K : Nat} {Ho H' : AStore} {C : List Prop} {ty : TypeId} {dst pos after guard} (hf : evA P ρ 0 fx = some α) (hl : evL P ρ (ts'.zip xs.toList) = some l) (ht : ts'.length = xs.toList.length) (h : callM P n0 ρ H l ps β0 sg K Ho α = some (β, H', C)) (hC : AllP C) :
    DoesC P b ρ H ⟨dst, .call ⟨.value fx, xs, ts⟩, ty, pos, after, guard⟩ β H' K := fun M φ ξ w a hc he => by
  have hu := evA_ok he hf
  have hr := evL_ok he hl
  rw [zip_map a.eval _ _ ht] at hr
  have e2 : xs.map a.eval = (xs.toList.map a.eval).toArray := by apply Array.ext'; simp
  have enter : ∀ {f : FuncId} {cap : Array Value}, a.eval fx = .func (.func f) #[] cap → Enters P f → (execOp a.eval ⟨dst, .call ⟨.value fx, xs, ts⟩, ty, pos, after, guard⟩).run P w = .ok (.enter f ((xs.toList.map a.eval).toArray ++ cap)) w := by
    intro f cap e h
    simp only [execOp, resolve, e, Deferred.ofValue, Sem.run_bind, Sem.run_pure, Result.andThen_ok, invoke]
    rw [e2, Array.empty_append]
    exact h _ _
  unfold callM at h
  split at h
  · rename_i f caps
    split at h
    · rename_i l' z C' Hi ha hp
      split at h
      · rename_i hh
        simp only [Bool.and_eq_true, Bool.or_eq_true, Bool.not_eq_true'] at hh
        obtain ⟨⟨⟨⟨⟨⟨k1, k2⟩, k3⟩, k4⟩, k5⟩, k6⟩, k7⟩ := hh
        simp only [Option.some.injEq, Prod.mk.injEq] at h
        obtain ⟨rfl, rfl, rfl⟩ := h
        obtain ⟨c1, c2, _⟩ := AllP.app hC
        obtain ⟨us, e, hr2⟩ := hu
        have hlt := ltB_mem k7
        have hz' : z = true → allB AItem.flatB Ho = true := fun hz => by
          rcases k4 with k | k
          · rw [hz] at k; cases k
          · exact k
        have := call_mut hc ha c1 hp (relVs_app hr hr2) c2 (nodB_ok k1) k2 k3 hz' (nodB_ok k5) (Nat.le_of_ble_eq_true k6) (fun L hL => hlt L (List.mem_append_right _ hL))
        refine .inr (.inr ⟨f, _, enter e c2.1, ?_⟩)
        have e3 : (xs.toList.map a.eval).toArray ++ us.toArray = (xs.toList.map a.eval ++ us).toArray := by simp
        rw [e3]
        refine this.mono ?_
        rintro e w' ⟨M', φ', ξ', v, rfl, g1, g2, g3, g4⟩
        exact ⟨v, rfl, M', φ', ξ', g1, (he.labs (fun L hL => g3 L (hlt L (List.mem_append_left _ hL)))).mono g2, ⟨g2, g3⟩, g4⟩
      · cases h
    · cases h
  · cases h

def AVal.isSub : AVal → Bool
  | .sub _ _ _ _ => true
  | _ => false
def stepE (P : Program) (n0 : Nat) (orc : List (Nat × Orc)) (i : Nat) (ρ : AEnv) (H : AStore) (L : Nat) (o : Oper) : Option (AVal × AStore × List Prop) :=
  match o.op with
  | .box T x => match evA P ρ T x with
    | some α => match boxA n0 ρ H T L α with
      | some (β, H') => some (β, H', [])
      | none => none
    | none => none
  | .alloc T => match allocA P n0 ρ H T L with
    | some (β, H') => some (β, H', [])
    | none => none
  | .store T x y => match evA P ρ 0 x, evA P ρ T y with
    | some α, some γ => match stoA P H T α γ with
      | some (H', C) => some (.undef, H', C)
      | none => none
    | _, _ => none
  | .makeMap T r => match r with
    | none => match mkmA P n0 ρ H T L with
      | some (β, H') => some (β, H', [])
      | none => none
    | some _ => none
  | .mapUpdate T m q x => match evA P ρ 0 m, evA P ρ 0 q, evA P ρ (match mapB P T with | some r => r.2 | none => 0) x with
    | some α, some κ, some γ => match mupA P H T α κ γ with
      | some H' => some (.undef, H', [])
      | none => match mupR P H T α κ γ with
        | some H' => some (.undef, H', [])
        | none => none
    | _, _, _ => none
  | .lookup T m q ck => match look orc i with
    | some o' => match ck, evA P ρ 0 m, evA P ρ 0 q with
      | false, some α, some κ => match lkR P H T α κ o'.β with
        | some C => some (o'.β, H, C)
        | none => none
      | _, _, _ => none
    | none => match pv P ρ H o.type (.lookup T m q ck) with
      | some (β, C) => some (β, H, C)
      | none => none
  | .mapEntry T m q => match evA P ρ 0 m, evA P ρ 0 q with
    | some α, some κ => menA P H T α κ
    | _, _ => none
  | .entryStore T m q x => match evA P ρ 0 m, evA P ρ 0 q, evA P ρ (match mapB P T with | some r => r.2 | none => 0) x with
    | some α, some κ, some γ => match mstA H T α κ γ with
      | some (H', C) => some (.undef, H', C)
      | none => none
    | _, _, _ => none
  | .buildSlice T n ps => match evL P ρ (ps.toList.map fun x => (fieldT P T 0, x.2)) with
    | some l => match look orc i with
      | some _ => match litF P n0 ρ H T n L (ps.toList.map (·.1)) l with
        | some β => some (β, H, [])
        | none => none
      | none => match litA P n0 ρ H T n L (ps.toList.map (·.1)) l with
        | some (β, H') => some (β, H', [])
        | none => none
    | none => none
  | .call ⟨.builtin .append, xs, ts⟩ => match xs.toList, ts.toList with
    | [x, y], [T, T'] => if T = T' then match evA P ρ T x, evA P ρ T y with
      | some α, some γ => if α.isSub then appV P H T α γ else appA P n0 ρ H T L α γ
      | _, _ => none
      else match evA P ρ T x, evA P ρ T' y with
      | some α, some γ => appS P n0 ρ H T T' L α γ
      | _, _ => none
    | _, _ => none
  | .call ⟨.builtin .clear, xs, ts⟩ => match xs.toList, ts.toList with
    | [x], [T] => match evA P ρ T x with
      | some α => match clrA P H T α with
        | some (H', C) => some (.tup [], H', C)
        | none => none
      | none => none
    | _, _ => none
  | .call ⟨.value fx, xs, ts⟩ => match look orc i with
    | some q => match evA P ρ 0 fx, evL P ρ (ts.toList.zip xs.toList) with
      | some α, some l => if Nat.beq ts.toList.length xs.toList.length then match q.m with
        | some m => callM P n0 ρ H l q.ps q.β m.1 L m.2 α
        | none => match callA P H l q α with
          | some (β, C) => some (β, H, C)
          | none => none
        else none
      | _, _ => none
    | none => none
  | _ => match pv P ρ H o.type o.op with
    | some (β, C) => some (β, H, C)
    | none => none

theorem stepE_ok {orc : List (Nat × Orc)} {i : Nat} {L : Nat} {o : Oper} {β : AVal} {H' : AStore} {C : List Prop} (h : stepE P n0 orc i ρ H L o = some (β, H', C)) (hC : AllP C) : DoesC P b ρ H o β H' L := by
  obtain ⟨dst, op, ty, pos, after, guard⟩ := o
  have pure : ∀ {op : Op}, (match pv P ρ H ty op with | some (β, C) => some (β, H, C) | none => none) = some (β, H', C) → DoesC P b ρ H ⟨dst, op, ty, pos, after, guard⟩ β H' L := by
    intro op h
    refine Does.toC ?_
    split at h
    · rename_i β' C' hp
      simp only [Option.some.injEq, Prod.mk.injEq] at h
      obtain ⟨rfl, rfl, rfl⟩ := h
      intro M φ ξ w a hc he
      obtain ⟨v, h1, h2⟩ := pv_ok (o := ⟨dst, op, ty, pos, after, guard⟩) hc he hp hC
      exact ⟨M, φ, ξ, w, v, .inl h1, hc, he, ⟨Fz.le_refl _, fun _ _ => rfl⟩, h2⟩
    · cases h
  cases op with
  | makeMap T r =>
    cases r with
    | none =>
      simp only [stepE] at h
      split at h
      · rename_i hb
        simp only [Option.some.injEq, Prod.mk.injEq] at h
        obtain ⟨rfl, rfl, rfl⟩ := h
        exact (does_makeMap hb).toC
      · cases h
    | some r => simp [stepE] at h
  | mapUpdate T m q x =>
    simp only [stepE] at h
    split at h
    · rename_i α κ γ h1 h2 h3
      split at h
      · rename_i hb
        simp only [Option.some.injEq, Prod.mk.injEq] at h
        obtain ⟨rfl, rfl, rfl⟩ := h
        exact (does_mapUpdate h1 h2 h3 hb).toC
      · split at h
        · rename_i hb
          simp only [Option.some.injEq, Prod.mk.injEq] at h
          obtain ⟨rfl, rfl, rfl⟩ := h
          exact (does_mapUpdR h1 h2 h3 hb).toC
        · cases h
    · cases h
  | lookup T m q ck =>
    simp only [stepE] at h
    split at h
    · rename_i o' ho'
      split at h
      · rename_i α κ h1 h2
        split at h
        · rename_i C' hb
          simp only [Option.some.injEq, Prod.mk.injEq] at h
          obtain ⟨rfl, rfl, rfl⟩ := h
          refine Does.toC ?_
          intro M φ ξ w a hc he
          obtain ⟨r, g1, g2⟩ := lkR_ok hc hb hC (evA_ok he h1) (evA_ok he h2)
          exact ⟨M, φ, ξ, w, r, .inl (vN_run g1), hc, he, ⟨Fz.le_refl _, fun _ _ => rfl⟩, g2⟩
        · cases h
      · cases h
    · exact pure h
  | mapEntry T m q =>
    simp only [stepE] at h
    split at h
    · rename_i α κ h1 h2
      exact (does_mapEntry h1 h2 h hC).toC
    · cases h
  | entryStore T m q x =>
    simp only [stepE] at h
    split at h
    · rename_i α κ γ h1 h2 h3
      split at h
      · rename_i hb
        simp only [Option.some.injEq, Prod.mk.injEq] at h
        obtain ⟨rfl, rfl, rfl⟩ := h
        exact (does_entryStore h1 h2 h3 hb hC).toC
      · cases h
    · cases h
  | box T x =>
    simp only [stepE] at h
    split at h
    · rename_i α hα
      split at h
      · rename_i hb
        simp only [Option.some.injEq, Prod.mk.injEq] at h
        obtain ⟨rfl, rfl, rfl⟩ := h
        exact (does_box hα hb).toC
      · cases h
    · cases h
  | alloc T =>
    simp only [stepE] at h
    split at h
    · rename_i hb
      simp only [Option.some.injEq, Prod.mk.injEq] at h
      obtain ⟨rfl, rfl, rfl⟩ := h
      exact (does_alloc hb).toC
    · cases h
  | store T x y =>
    simp only [stepE] at h
    split at h
    · rename_i α γ hα hγ
      split at h
      · rename_i hb
        simp only [Option.some.injEq, Prod.mk.injEq] at h
        obtain ⟨rfl, rfl, rfl⟩ := h
        exact (does_store hα hγ hb hC).toC
      · cases h
    · cases h
  | buildSlice T n ps =>
    simp only [stepE] at h
    split at h
    · rename_i l hl
      split at h
      · split at h
        · rename_i hb
          simp only [Option.some.injEq, Prod.mk.injEq] at h
          obtain ⟨rfl, rfl, rfl⟩ := h
          exact (does_litF hl hb).toC
        · cases h
      · split at h
        · rename_i hb
          simp only [Option.some.injEq, Prod.mk.injEq] at h
          obtain ⟨rfl, rfl, rfl⟩ := h
          exact (does_lit hl hb).toC
        · cases h
    · cases h
  | call c =>
    obtain ⟨callee, xs, ts⟩ := c
    cases callee with
    | builtin bi =>
      cases bi with
      | append =>
        simp only [stepE] at h
        split at h
        · rename_i x y T T' hx hT
          split at h
          · rename_i e
            subst e
            split at h
            · rename_i α γ hα hγ
              have e1 : xs = #[x, y] := by apply Array.ext'; simpa using hx
              have e2 : ts = #[T, T] := by apply Array.ext'; simpa using hT
              subst e1 e2
              split at h
              · exact (does_appV hα hγ h hC).toC
              · exact (does_app hα hγ h hC).toC
            · cases h
          · split at h
            · rename_i α γ hα hγ
              have e1 : xs = #[x, y] := by apply Array.ext'; simpa using hx
              have e2 : ts = #[T, T'] := by apply Array.ext'; simpa using hT
              subst e1 e2
              exact (does_appS hα hγ h hC).toC
            · cases h
        · cases h
      | clear =>
        simp only [stepE] at h
        split at h
        · rename_i x T hx hT
          split at h
          · rename_i α hα
            split at h
            · rename_i hb
              simp only [Option.some.injEq, Prod.mk.injEq] at h
              obtain ⟨rfl, rfl, rfl⟩ := h
              have e1 : xs = #[x] := by apply Array.ext'; simpa using hx
              have e2 : ts = #[T] := by apply Array.ext'; simpa using hT
              subst e1 e2
              exact (does_clear hα hb hC).toC
            · cases h
          · cases h
        · cases h
      | _ => exact pure h
    | value fx =>
      simp only [stepE] at h
      split at h
      · split at h
        · rename_i α l hα hl
          split at h
          · rename_i hn
            split at h
            · exact does_mut hα hl (Nat.eq_of_beq_eq_true hn) h hC
            · split at h
              · rename_i hca
                simp only [Option.some.injEq, Prod.mk.injEq] at h
                obtain ⟨rfl, rfl, rfl⟩ := h
                exact does_call hα hl (Nat.eq_of_beq_eq_true hn) hca hC
              · cases h
          · cases h
        · cases h
      · cases h
    | _ => exact pure h
  | _ => exact pure h

def dcd (dec : List (Nat × Bool)) (i : Nat) (β : AVal) : AVal × List Prop :=
  match look dec i with
  | some d => match β with
    | .v .bool z => (.v .bool d, [z = d])
    | _ => (β, [])
  | none => (β, [])
theorem dcd_ok {M : Fz} {φ : Nat → Value} {dec : List (Nat × Bool)} {i : Nat} {β : AVal} {v : Value} (h : RelV P M φ β v) (hC : AllP (dcd dec i β).2) : RelV P M φ (dcd dec i β).1 v := by
  unfold dcd at hC ⊢
  split
  · rename_i d hd
    simp only [hd] at hC
    split
    · rename_i z
      have e : z = d := hC.1
      subst e
      exact h
    · exact h
  · exact h

def evOps (P : Program) (n0 nt : Nat) (orc : List (Nat × Orc)) (dec : List (Nat × Bool)) (L0 : Nat) (ops : Array Oper) : List Nat → AEnv → AStore → Option (AEnv × AStore × List Prop)
  | [], ρ, H => some (ρ, H, [])
  | i :: l, ρ, H => match ops[i]? with
    | none => none
    | some o => match gdE ops o ρ with
      | none => none
      | some false => match o.dst with
        | some d => if Nat.blt d nt then evOps P n0 nt orc dec L0 ops l ((d, .undef) :: ρ) H else none
        | none => evOps P n0 nt orc dec L0 ops l ρ H
      | some true => match stepE P n0 orc i ρ H (L0 + 20 * i) o with
        | none => none
        | some (β, H', C) => match o.dst with
          | some d => if Nat.blt d nt then match evOps P n0 nt orc dec L0 ops l ((d, (dcd dec i β).1) :: ρ) H' with
            | some (ρ2, H2, C2) => some (ρ2, H2, C ++ ((dcd dec i β).2 ++ C2))
            | none => none
            else none
          | none => match evOps P n0 nt orc dec L0 ops l ρ H' with
            | some (ρ2, H2, C2) => some (ρ2, H2, C ++ C2)
            | none => none

theorem put_size (a : Act) (dst : Option Tmp) (v : Value) : (a.put dst v).tmps.size = a.tmps.size := by cases dst <;> simp [Act.put]
theorem put_defers (a : Act) (dst : Option Tmp) (v : Value) : (a.put dst v).defers = a.defers := by cases dst <;> rfl

theorem gdE_ok {ops : Array Oper} {o : Oper} {M : Fz} {φ : Nat → Value} {a : Act} (he : EnvR P M φ ρ a.tmps) {z : Bool} (h : gdE ops o ρ = some z) : Region.wanted o (yielded ops a.tmps) = z := by
  unfold gdE at h
  split at h
  · rename_i hg
    simp only [Option.some.injEq] at h
    simp [Region.wanted, hg, h]
  · rename_i j want hg
    split at h
    · rename_i p hp
      split at h
      · rename_i d hd
        split at h
        · rename_i z' hl
          obtain ⟨v, h1, h2⟩ := he d _ hl
          have hv := bool_val h2
          subst hv
          split at h
          · simp only [Option.some.injEq] at h
            subst h
            cases want <;> simp [Region.wanted, hg, yielded, hp, hd, h1]
          · simp only [Option.some.injEq] at h
            subst h
            cases want <;> simp [Region.wanted, hg, yielded, hp, hd, h1]
        · rename_i hl
          obtain ⟨v, h1, h2⟩ := he d _ hl
          obtain rfl : v = undef := h2
          simp only [Option.some.injEq] at h
          subst h
          cases want <;> simp [Region.wanted, hg, yielded, hp, hd, h1, undef]
        · cases h
      · cases h
    · cases h
  

theorem run_opsA {orc : List (Nat × Orc)} {dec : List (Nat × Bool)} {L0 : Nat} {ops : Array Oper} {l2 : List Nat} : ∀ {l : List Nat} {ρ : AEnv} {H : AStore} {ρ' : AEnv} {H' : AStore} {C : List Prop}, evOps P n0 fn.ntmps orc dec L0 ops l ρ H = some (ρ', H', C) → AllP C → Run P fn b R (.ops ops l2 :: k) ρ' H' → Run P fn b R (.ops ops (l ++ l2) :: k) ρ H
  | [], ρ, H, ρ', H', C, h, _, hr => by
    simp only [evOps, Option.some.injEq, Prod.mk.injEq] at h
    obtain ⟨rfl, rfl, rfl⟩ := h
    exact hr
  | i :: l, ρ, H, ρ', H', C, h, hC, hr => by
    intro a w h1 h2 h3
    show wpOps P ops _ (i :: (l ++ l2)) a w
    simp only [evOps] at h
    cases ho : ops[i]? with
    | none => simp [ho] at h
    | some o =>
      simp only [ho] at h
      obtain ⟨M, φ, ξ, g1, g2⟩ := h1
      cases hg : gdE ops o ρ with
      | none => simp [hg] at h
      | some z =>
        have hw := gdE_ok g2 hg
        simp only [hg] at h
        simp only [wpOps, ho, hw]
        cases z with
        | false =>
          simp only at h
          simp only [Bool.false_eq_true, if_false]
          cases hd : o.dst with
          | none =>
            simp only [hd] at h
            exact run_opsA h hC hr _ w ⟨M, φ, ξ, g1, g2⟩ h2 h3
          | some d =>
            simp only [hd] at h
            split at h
            · rename_i hlt
              rw [Nat.blt_eq] at hlt
              refine run_opsA h hC hr _ w ⟨M, φ, ξ, g1, ?_⟩ (by rw [put_size]; exact h2) h3
              exact g2.put d .undef undef (by rw [h2]; exact hlt) rfl
            · cases h
        | true =>
          simp only at h
          simp only [if_true]
          left
          cases hs : stepE P n0 orc i ρ H (L0 + 20 * i) o with
          | none => simp [hs] at h
          | some q =>
            obtain ⟨β, H1, C1⟩ := q
            simp only [hs] at h
            cases hd : o.dst with
            | none =>
              simp only [hd] at h
              split at h
              · rename_i ρ2 H2 C2 hrest
                simp only [Option.some.injEq, Prod.mk.injEq] at h
                obtain ⟨rfl, rfl, rfl⟩ := h
                obtain ⟨c1, c2⟩ := AllP.app hC
                unfold Oper.wp
                rcases stepE_ok (b := b) hs c1 M φ ξ w a g1 g2 with ⟨v, w', k1, M', φ', ξ', k2, k3, _, k4⟩ | ⟨w', k1, M', φ', ξ', k2, k3, _, k4⟩ | ⟨f, args, k1, k2⟩
                · rw [k1]
                  simp only [Oper.upon_value, hd]
                  exact run_opsA hrest c2 hr _ w' ⟨M', φ', ξ', k2, k3⟩ h2 h3
                · rw [k1]
                  simp only [Oper.upon_skip, hd]
                  exact run_opsA hrest c2 hr _ w' ⟨M', φ', ξ', k2, k3⟩ h2 h3
                · rw [k1]
                  simp only [Oper.upon_enter]
                  refine k2.mono ?_
                  rintro e w' ⟨v, rfl, M', φ', ξ', k2, k3, _, k4⟩
                  simp only [hd]
                  exact run_opsA hrest c2 hr _ w' ⟨M', φ', ξ', k2, k3⟩ h2 h3
              · cases h
            | some d =>
              simp only [hd] at h
              split at h
              · rename_i hlt
                rw [Nat.blt_eq] at hlt
                split at h
                · rename_i ρ2 H2 C2 hrest
                  simp only [Option.some.injEq, Prod.mk.injEq] at h
                  obtain ⟨rfl, rfl, rfl⟩ := h
                  obtain ⟨c1, c2⟩ := AllP.app hC
                  obtain ⟨c3, c4⟩ := AllP.app c2
                  unfold Oper.wp
                  rcases stepE_ok (b := b) hs c1 M φ ξ w a g1 g2 with ⟨v, w', k1, M', φ', ξ', k2, k3, _, k4⟩ | ⟨w', k1, M', φ', ξ', k2, k3, _, k4⟩ | ⟨f, args, k1, k2⟩
                  · rw [k1]
                    simp only [Oper.upon_value, hd]
                    exact run_opsA hrest c4 hr _ w' ⟨M', φ', ξ', k2, k3.put d _ v (by rw [h2]; exact hlt) (dcd_ok k4 c3)⟩ (by rw [put_size]; exact h2) h3
                  · rw [k1]
                    simp only [Oper.upon_skip, hd]
                    exact run_opsA hrest c4 hr _ w' ⟨M', φ', ξ', k2, k3.put d _ undef (by rw [h2]; exact hlt) (dcd_ok k4 c3)⟩ (by rw [put_size]; exact h2) h3
                  · rw [k1]
                    simp only [Oper.upon_enter]
                    refine k2.mono ?_
                    rintro e w' ⟨v, rfl, M', φ', ξ', k2, k3, _, k4⟩
                    simp only [hd]
                    exact run_opsA hrest c4 hr _ w' ⟨M', φ', ξ', k2, k3.put d _ v (by rw [h2]; exact hlt) (dcd_ok k4 c3)⟩ (by rw [put_size]; exact h2) h3
                · cases h
              · cases h

theorem run_ops {orc : List (Nat × Orc)} {dec : List (Nat × Bool)} {L0 : Nat} {ops : Array Oper} {l : List Nat} {ρ : AEnv} {H : AStore} {ρ' : AEnv} {H' : AStore} {C : List Prop} (h : evOps P n0 fn.ntmps orc dec L0 ops l ρ H = some (ρ', H', C)) (hC : AllP C) (hr : Run P fn b R k ρ' H') : Run P fn b R (.ops ops l :: k) ρ H := by
  have := run_opsA (l2 := []) (k := k) h hC hr
  rwa [List.append_nil] at this

/-! ### Forgetting, in a given order -/
def trimE : List Nat → AEnv → Option AEnv
  | [], _ => some []
  | t :: l, ρ => match look ρ t, trimE l ρ with
    | some α, some r => some ((t, α) :: r)
    | _, _ => none
def trimH : List Nat → AStore → Option AStore
  | [], _ => some []
  | t :: l, H => match look H t, trimH l H with
    | some α, some r => some ((t, α) :: r)
    | _, _ => none
def nodupB : List Nat → Bool
  | [] => true
  | x :: l => !l.any (Nat.beq x) && nodupB l
theorem nodupB_ok : ∀ {l : List Nat}, nodupB l = true → l.Nodup
  | [], _ => List.nodup_nil
  | x :: l, h => by
    simp only [nodupB, Bool.and_eq_true, Bool.not_eq_true'] at h
    rw [List.nodup_cons]
    refine ⟨fun hx => ?_, nodupB_ok h.2⟩
    have := h.1
    rw [List.any_eq_false] at this
    exact this x hx (by simp)
theorem trimE_ok : ∀ {l : List Nat} {ρ ρ' : AEnv}, trimE l ρ = some ρ' → ∀ t α, look ρ' t = some α → look ρ t = some α
  | [], ρ, ρ', h, t, α, ht => by simp only [trimE, Option.some.injEq] at h; subst h; simp [look] at ht
  | x :: l, ρ, ρ', h, t, α, ht => by
    simp only [trimE] at h
    split at h
    · rename_i β r h1 h2
      simp only [Option.some.injEq] at h
      subst h
      simp only [look] at ht
      split at ht
      · rename_i e
        have e := Nat.eq_of_beq_eq_true e
        subst e
        rw [← ht]; exact h1
      · exact trimE_ok h2 t α ht
    · cases h
theorem trimH_ok : ∀ {l : List Nat} {H H' : AStore}, trimH l H = some H' → H'.map Prod.fst = l ∧ ∀ x ∈ H', x ∈ H
  | [], H, H', h => by simp only [trimH, Option.some.injEq] at h; subst h; exact ⟨rfl, fun x hx => by cases hx⟩
  | y :: l, H, H', h => by
    simp only [trimH] at h
    split at h
    · rename_i β r h1 h2
      simp only [Option.some.injEq] at h
      subst h
      obtain ⟨k1, k2⟩ := trimH_ok h2
      refine ⟨by simp [k1], fun x hx => ?_⟩
      rcases List.mem_cons.1 hx with rfl | hx
      · exact look_mem h1
      · exact k2 x hx
    · cases h
theorem Core.pick {M : Fz} {φ : Nat → Value} {ξ : Nat → Option Nat} {w : World} (s : Core P b M φ ξ H w) {H' : AStore} (hn : (H'.map Prod.fst).Nodup) (h : ∀ x ∈ H', x ∈ H) : Core P b M φ ξ H' w :=
  ⟨s.le, s.same, s.over, s.below, fun L it hi => s.items L it (h _ hi), fun L it g hi => s.feet L it g (h _ hi), fun L L' it it' g h1 h2 => s.sep L L' it it' g (h _ h1) (h _ h2), hn, s.keep⟩
theorem St.trim {tmps : Array Value} {w : World} {ls lh : List Nat} {ρ' : AEnv} {H' : AStore} (h : St P b ρ H tmps w) (h1 : trimE ls ρ = some ρ') (h2 : trimH lh H = some H') (hn : nodupB lh = true) : St P b ρ' H' tmps w := by
  obtain ⟨M, φ, ξ, g1, g2⟩ := h
  obtain ⟨k1, k2⟩ := trimH_ok h2
  exact ⟨M, φ, ξ, g1.pick (by rw [k1]; exact nodupB_ok hn) k2, fun t α ht => g2 t α (trimE_ok h1 t α ht)⟩

def evReg (P : Program) (n0 nt : Nat) (orc : List (Nat × Orc)) (dec : List (Nat × Bool)) (L0 : Nat) (ls lh : List Nat) (ops : Array Oper) (ρ : AEnv) (H : AStore) : Option (AEnv × AStore × List Prop) :=
  if nodupB lh then match evOps P n0 nt orc dec L0 ops (List.range ops.size) ρ H with
    | some (ρ1, H1, C) => match trimE ls ρ1, trimH lh H1 with
      | some ρ', some H' => some (ρ', H', C)
      | _, _ => none
    | none => none
  else none

/-- A region in the order of the text. -/
theorem reg {c : Code} {ops : Array Oper} {ρ' : AEnv} {H' : AStore} (orc : List (Nat × Orc)) (dec : List (Nat × Bool)) (L0 : Nat) (ls lh : List Nat) (C : List Prop) (hc : Code.kind c = .region ops false) (h : evReg P n0 fn.ntmps orc dec L0 ls lh ops ρ H = some (ρ', H', C)) (hC : AllP C) (hr : Run P fn b R k ρ' H') : Run P fn b R (.code c :: k) ρ H := by
  cases c <;> simp [Code.kind] at hc
  obtain ⟨rfl, rfl⟩ := hc
  unfold evReg at h
  split at h
  · rename_i hn
    split at h
    · rename_i ρ1 H1 C1 h1
      split at h
      · rename_i ρ2 H2 h2 h3
        simp only [Option.some.injEq, Prod.mk.injEq] at h
        obtain ⟨rfl, rfl, rfl⟩ := h
        exact fun a w g1 g2 g3 => wp_region (run_ops h1 hC (fun a w g1 g2 g3 => hr a w (g1.trim h2 h3 hn) g2 g3) a w g1 g2 g3)
      · cases h
    · cases h
  · cases h

/-! ### Results -/
def resA (P : Program) (ρ : AEnv) (H : AStore) : ResultVar → Option AVal
  | .tmp t => look ρ t
  | .cell a T => match look ρ a with
    | some α => match ldA P H T α with
      | some (β, []) => some β
      | _ => none
    | none => none
def resAs (P : Program) (ρ : AEnv) (H : AStore) : List ResultVar → Option (List AVal)
  | [] => some []
  | r :: l => match resA P ρ H r, resAs P ρ H l with
    | some α, some q => some (α :: q)
    | _, _ => none
def one : List AVal → AVal
  | [α] => α
  | l => .tup l

theorem readOne_ok {M : Fz} {φ : Nat → Value} {ξ : Nat → Option Nat} {w : World} (hc : Core P b M φ ξ H w) {tmps : Array Value} (he : EnvR P M φ ρ tmps) {r : ResultVar} {α : AVal} (h : resA P ρ H r = some α) : ∃ v, (readOne tmps r).run P w = .ok v w ∧ RelV P M φ α v := by
  cases r with
  | tmp t =>
    obtain ⟨v, h1, h2⟩ := he t α h
    obtain ⟨hl, h1⟩ := Array.getElem?_eq_some_iff.1 h1
    refine ⟨v, ?_, h2⟩
    simp [readOne, Array.getD, hl, h1]
  | cell a T =>
    simp only [resA] at h
    split at h
    · rename_i γ hγ
      split at h
      · rename_i β hl
        simp only [Option.some.injEq] at h
        subst h
        obtain ⟨v, h1, h2⟩ := he a γ hγ
        obtain ⟨y, h3, h4⟩ := ldA_ok hc h2 hl trivial
        obtain ⟨hlt, h1⟩ := Array.getElem?_eq_some_iff.1 h1
        refine ⟨y, ?_, h4⟩
        have e : tmps.getD a undef = v := by simp [Array.getD, hlt, h1]
        simp only [readOne, e]
        clear h1 h2 e
        unfold Instr.loadAt at h3
        cases v <;> try (simp [Instr.sureAddr] at h3; done)
        rename_i p
        cases p with
        | none => simp [Instr.sureAddr] at h3
        | some p => simpa [Instr.sureAddr, asAddr] using h3
      · cases h
    · cases h

theorem resAs_ok {M : Fz} {φ : Nat → Value} {ξ : Nat → Option Nat} {w : World} (hc : Core P b M φ ξ H w) {tmps : Array Value} (he : EnvR P M φ ρ tmps) : ∀ {l : List ResultVar} {q : List AVal}, resAs P ρ H l = some q → ∃ vs, (l.mapM (readOne tmps)).run P w = .ok vs w ∧ RelVs P M φ q vs
  | [], q, h => by simp only [resAs, Option.some.injEq] at h; subst h; exact ⟨[], by simp, rfl⟩
  | r :: l, q, h => by
    simp only [resAs] at h
    split at h
    · rename_i α q' h1 h2
      simp only [Option.some.injEq] at h
      subst h
      obtain ⟨v, k1, k2⟩ := readOne_ok hc he h1
      obtain ⟨vs, k3, k4⟩ := resAs_ok hc he h2
      exact ⟨v :: vs, by simp [List.mapM_cons, k1, k3], v, vs, rfl, k2, k4⟩
    · cases h

theorem results_ok {M : Fz} {φ : Nat → Value} {ξ : Nat → Option Nat} {w : World} (hc : Core P b M φ ξ H w) {tmps : Array Value} (he : EnvR P M φ ρ tmps) {q : List AVal} (h : resAs P ρ H fn.results.toList = some q) : ∃ v, (results fn tmps).run P w = .ok v w ∧ RelV P M φ (one q) v := by
  obtain ⟨vs, h1, h2⟩ := resAs_ok hc he h
  have hl := relVs_len h2
  have e : (fn.results.mapM (readOne tmps)).run P w = .ok vs.toArray w := by
    rw [Array.mapM_eq_mapM_toList]
    simp [h1]
  match q, vs, h2, hl with
  | [α], vs, h2, hl =>
    obtain ⟨v, r, rfl, h3, rfl⟩ := h2
    exact ⟨v, by rw [results_eq]; simp [e], h3⟩
  | [], vs, h2, hl =>
    simp only [RelVs] at h2
    subst h2
    exact ⟨.tuple #[], by rw [results_eq]; simp [e], [], rfl, rfl⟩
  | α :: β :: q, vs, h2, hl =>
    refine ⟨.tuple vs.toArray, ?_, vs, rfl, h2⟩
    rw [results_eq]
    have : ¬ vs.length = 1 := by rw [hl]; simp
    simp [e, this]

theorem run_ret {R0 : Ending → World → Prop} {c : Code} {q : List AVal} (hc : Code.kind c = .ret) (hq : resAs P ρ H fn.results.toList = some q) (h : ∀ M φ ξ w v, Core P b M φ ξ H w → RelV P M φ (one q) v → R0 (.returned v) w) : Run P fn b (bodyPost P fn R0) (.code c :: k) ρ H := by
  cases c <;> simp [Code.kind] at hc
  intro a w g1 g2 g3
  obtain ⟨M, φ, ξ, k1, k2⟩ := g1
  obtain ⟨v, h1, h2⟩ := results_ok k1 k2 hq
  exact wp_ret (kwp_ret ⟨g3, v, h1, h M φ ξ w v k1 h2⟩)
theorem run_fall {R0 : Ending → World → Prop} {q : List AVal} (hq : resAs P ρ H fn.results.toList = some q) (h : ∀ M φ ξ w v, Core P b M φ ξ H w → RelV P M φ (one q) v → R0 (.returned v) w) : Run P fn b (bodyPost P fn R0) [] ρ H := by
  intro a w g1 g2 g3
  obtain ⟨M, φ, ξ, k1, k2⟩ := g1
  obtain ⟨v, h1, h2⟩ := results_ok k1 k2 hq
  exact ⟨g3, v, h1, h M φ ξ w v k1 h2⟩
end

def base0 (w : World) (M : Fz) (h : Over M w) : Base 0 := ⟨w, M, [], φ0, h⟩
def PureR (P : Program) (w : World) (M : Fz) (β : AVal) : Ending → World → Prop := fun e w' => ∃ M' v, e = .returned v ∧ Below w.heap.size w w' ∧ M.le M' ∧ (∀ g, g < w.heap.size → M' g = M g) ∧ Over M' w' ∧ RelV P M' φ0 β v
def slots : List AVal → Nat → AEnv
  | [], _ => []
  | α :: l, i => (i, α) :: slots l (i + 1)

theorem slots_ok {P : Program} {M : Fz} {φ : Nat → Value} {tmps : Array Value} : ∀ {l : List AVal} {us : List Value} {i : Nat}, RelVs P M φ l us → (∀ j u, us[j]? = some u → tmps[i + j]? = some u) → EnvR P M φ (slots l i) tmps
  | [], us, i, _, _ => fun t α h => by simp [slots, look] at h
  | β :: l, us, i, ⟨u, r, e, h1, h2⟩, ht => by
    subst e
    intro t α h
    simp only [slots, look] at h
    split at h
    · rename_i e
      have e := Nat.eq_of_beq_eq_true e
      simp only [Option.some.injEq] at h
      subst e h
      exact ⟨u, by simpa using ht 0 u rfl, h1⟩
    · exact slots_ok h2 (fun j v hj => by have := ht (j + 1) v (by simpa using hj); rwa [show i + (j + 1) = i + 1 + j by omega] at this) t α h

theorem pure_of_run {P : Program} {f : FuncId} {fn : Func} {c : Code} {l : List AVal} {β : AVal} (h0 : Enters P f) (hf : P.funcs[f]? = some fn) (hb : fn.body = some c) (hn : Nat.ble l.length fn.ntmps = true)
    (h : ∀ w M (ho : Over M w), Run P fn (base0 w M ho) (bodyPost P fn (PureR P w M β)) [.code c] (slots l 0) []) : Pure P f l β := by
  refine ⟨h0, ?_⟩
  intro w M us ho hr
  have hl := relVs_len hr
  have hn := Nat.le_of_ble_eq_true hn
  refine calls_of_wp hf hb (h w M ho _ _ ⟨M, φ0, fun _ => none, ?_, ?_⟩ ?_ rfl)
  · exact ⟨Fz.le_refl _, fun _ _ => rfl, ho, BelowX.refl _ _ _, fun L it hi => (by cases hi), fun L it g hi => (by cases hi), fun L L' it it' g hi => (by cases hi), by simp, fun L hL => (by omega)⟩
  · refine slots_ok hr fun j u hj => ?_
    have hlt := (List.getElem?_eq_some_iff.1 hj).1
    rw [Nat.zero_add, Array.getElem?_append_left (by simpa using hlt)]
    simpa using hj
  · simp
    omega

/-- The body of what writes memory that it is given. -/
def MutR (P : Program) {n0 : Nat} (b : Base n0) (β : AVal) (Ho : AStore) (e : Ending) (w' : World) : Prop := ∃ M' φ' ξ' v, e = .returned v ∧ Core P b M' φ' ξ' Ho w' ∧ RelV P M' φ' β v
theorem mut_of_run {P : Program} {f : FuncId} {fn : Func} {c : Code} {n0 : Nat} {l : List AVal} {Hi : AStore} {β : AVal} {Ho : AStore} (h0 : Enters P f) (hf : P.funcs[f]? = some fn) (hb : fn.body = some c) (hn : Nat.ble l.length fn.ntmps = true)
    (h : ∀ b : Base n0, Run P fn b (bodyPost P fn (MutR P b β Ho)) [.code c] (slots l 0) Hi) : Mut P f n0 l Hi β Ho := by
  refine ⟨h0, ?_⟩
  intro b ξ us hc hr
  have hl := relVs_len hr
  have hn := Nat.le_of_ble_eq_true hn
  refine calls_of_wp hf hb (h b _ _ ⟨b.M, b.φ0, ξ, hc, ?_⟩ ?_ rfl)
  · refine slots_ok hr fun j u hj => ?_
    have hlt := (List.getElem?_eq_some_iff.1 hj).1
    rw [Nat.zero_add, Array.getElem?_append_left (by simpa using hlt)]
    simpa using hj
  · simp
    omega

/-- The result of what only computes. -/
theorem pureR {P : Program} {w : World} {M : Fz} {ho : Over M w} {α β : AVal} (hl : α.labs = []) (hco : ∀ M u, RelV P M φ0 α u → RelV P M φ0 β u) {H : AStore} : ∀ M' φ ξ w' v, Core P (base0 w M ho) M' φ ξ H w' → RelV P M' φ α v → PureR P w M β (.returned v) w' := by
  intro M' φ ξ w' v hc hv
  refine ⟨M', v, rfl, ⟨hc.below.os, hc.below.tape, hc.below.output, hc.below.size, fun k hk => hc.below.block k hk (by simp [base0])⟩, hc.le, hc.same, hc.over, hco _ _ (relV_labs (fun L hL => by rw [hl] at hL; cases hL) hv)⟩
end Go.Proofs.YtlhbekiplnmolaaDoor
