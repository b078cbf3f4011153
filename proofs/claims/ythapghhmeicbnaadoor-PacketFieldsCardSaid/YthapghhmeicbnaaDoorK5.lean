/- The machine's side, told once: regions that draw their order, whatever they hold. -/
import Derived.Test.YthapghhmeicbnaaDoorK4
import Derived.Orders
set_option linter.unusedVariables false
set_option linter.unusedSimpArgs false
namespace Go.Proofs.YthapghhmeicbnaaDoor
open Go.RowKit

def Apt (x y : HI) : Prop := ∀ g, x.foot = some g → y.foot ≠ some g

theorem sat_iff {w0 w : World} {H : Hp} : Sat w0 H w ↔ Below w0.heap.size w0 w ∧ (∀ x ∈ H, HI.holds w0.heap.size w x) ∧ H.Pairwise Apt := by
  constructor
  · intro s
    refine ⟨s.below, fun x hx => ?_, ?_⟩
    · obtain ⟨i, hi⟩ := List.getElem?_of_mem hx
      exact s.mem i x hi
    · rw [List.pairwise_iff_getElem]
      intro i j hi hj hij
      exact s.sep i j _ _ (by omega) (List.getElem?_eq_getElem hi) (List.getElem?_eq_getElem hj)
  · rintro ⟨h1, h2, h3⟩
    refine ⟨h1, fun i x hx => h2 x (List.mem_of_getElem? hx), ?_⟩
    rw [List.pairwise_iff_getElem] at h3
    intro i j x y hij hx hy g hg hg2
    obtain ⟨hi, rfl⟩ := List.getElem?_eq_some_iff.1 hx
    obtain ⟨hj, rfl⟩ := List.getElem?_eq_some_iff.1 hy
    rcases Nat.lt_or_ge i j with h | h
    · exact h3 i j hi hj h g hg hg2
    · exact h3 j i hj hi (by omega) g hg2 hg

theorem apt_symm {x y : HI} (h : Apt x y) : Apt y x := fun g hg hg2 => h g hg2 hg

theorem Sat.perm {w0 w : World} {H H' : Hp} (s : Sat w0 H w) (h : H.Perm H') : Sat w0 H' w := by
  obtain ⟨h1, h2, h3⟩ := sat_iff.1 s
  exact sat_iff.2 ⟨h1, fun x hx => h2 x (h.mem_iff.2 hx), h3.perm h apt_symm⟩

theorem Sat.sub {w0 w : World} {H H' : Hp} (s : Sat w0 H w) (h : H'.Sublist H) : Sat w0 H' w := by
  obtain ⟨h1, h2, h3⟩ := sat_iff.1 s
  exact sat_iff.2 ⟨h1, fun x hx => h2 x (h.subset hx), h3.sublist h⟩

theorem perm_front : ∀ (D l : List Nat), D.Nodup → (∀ x ∈ D, x ∈ l) → ∃ r, l.Perm (D ++ r)
  | [], l, _, _ => ⟨l, .refl _⟩
  | x :: D, l, hd, hs => by
    have hx := hs x (List.mem_cons_self ..)
    obtain ⟨r, hr⟩ := perm_front D (l.erase x) (List.nodup_cons.1 hd).2 (fun y hy => by
      have hy' := hs y (List.mem_cons_of_mem _ hy)
      refine (List.mem_erase_of_ne ?_).2 hy'
      rintro rfl
      exact (List.nodup_cons.1 hd).1 hy)
    exact ⟨r, (List.perm_cons_erase hx).trans (hr.cons x)⟩

theorem Sat.part {w0 w : World} {H : Hp} {l D : List Nat} {hs : Nat → Hp} (s : Sat w0 (l.flatMap hs ++ H) w) (hd : D.Nodup) (hD : ∀ x ∈ D, x ∈ l) : Sat w0 (D.flatMap hs ++ H) w := by
  obtain ⟨r, hr⟩ := perm_front D l hd hD
  have h1 : (l.flatMap hs ++ H).Perm ((D ++ r).flatMap hs ++ H) := (hr.flatMap_right hs).append_right H
  refine (s.perm h1).sub ?_
  rw [List.flatMap_append, List.append_assoc]
  exact (List.Sublist.refl _).append (List.sublist_append_right _ _)

/-! ### Any order, one operation at a time -/

section
variable {P : Program} {fn : Func} {w0 : World} {k : List KI} {ρ : Env} {H : Hp} {R : Value → Hp → Prop} {ops : Array Oper} {i : Nat} {todo : List Nat} {dst : Option Tmp} {d : Tmp}

def RunAny (P : Program) (fn : Func) (w0 : World) (ops : Array Oper) (fuel : Nat) (listed : Array Bool) (k : List KI) (ρ : Env) (H : Hp) (R : Value → Hp → Prop) : Prop :=
  ∀ a w, EnvOk ρ a.tmps → a.tmps.size = fn.ntmps → a.defers = [] → Sat w0 H w → wpAny P .any ops (kwp P (fin P fn w0 R) k) fuel listed a w

theorem any_end {listed : Array Bool} (hr : Region.ready .any ops listed = []) (h : Run P fn w0 k ρ H R) : RunAny P fn w0 ops 0 listed k ρ H R :=
  fun a w h1 h2 h3 h4 => ⟨hr, h a w h1 h2 h3 h4⟩

theorem any_draw {c : Code} {n : Nat} {listed : Array Bool} (hc : Code.kind c = .region ops true) (hn : ops.size = n) (hl : Array.replicate ops.size false = listed) (hm : P.follows .mixedOrders = true) (h : RunAny P fn w0 ops n listed k ρ H R) : Run P fn w0 (.code c :: k) ρ H R := by
  cases c <;> simp [Code.kind] at hc
  obtain ⟨rfl, rfl⟩ := hc
  subst hn hl
  exact fun a w h1 h2 h3 h4 => wp_region_any hm (h a _ h1 h2 h3 (h4.draws 1))

/-- The frame's wp of a single operation, what follows behind a variable. -/
def RunOp (P : Program) (fn : Func) (w0 : World) (ops : Array Oper) (i : Nat) (ρ : Env) (H : Hp) (K : Env → Hp → Prop) : Prop :=
  ∀ (Q : Exit → Act → World → Prop) (X : Act → World → Prop), (∀ ρ' H', K ρ' H' → ∀ a w, EnvOk ρ' a.tmps → a.tmps.size = fn.ntmps → a.defers = [] → Sat w0 H' w → X a w) →
    ∀ a w, EnvOk ρ a.tmps → a.tmps.size = fn.ntmps → a.defers = [] → Sat w0 H w → wpOp P ops Q i X a w

theorem any_step {n : Nat} {listed : Array Bool} {l : List Nat} (hr : Region.ready .any ops listed = l) (hne : l ≠ []) (h : ∀ i ∈ l, RunOp P fn w0 ops i ρ H (fun ρ' H' => RunAny P fn w0 ops n (listed.setIfInBounds i true) k ρ' H' R)) :
    RunAny P fn w0 ops (n + 1) listed k ρ H R := by
  intro a w h1 h2 h3 h4
  refine ⟨fun h0 => absurd (hr.symm.trans h0) hne, fun i hi => ?_⟩
  rw [hr] at hi
  exact h i hi _ _ (fun ρ' H' hk a w g1 g2 g3 g4 => hk a w g1 g2 g3 g4) a w h1 h2 h3 h4

theorem ro_val {s : Sem Next} {K : Env → Hp → Prop} (h : stepG fn.ntmps ops i ρ = some (dst, s))
    (hr : ∀ w, Sat w0 H w → ∃ v w' H', s.run P w = .ok (.value v) w' ∧ Sat w0 H' w' ∧ K (bind dst v ρ) H') : RunOp P fn w0 ops i ρ H K := by
  intro Q X hX a w h1 h2 h3 h4
  obtain ⟨o, ho, hw, hd, hlt, he⟩ := stepG_ok h h1
  obtain ⟨v, w', H', hs, h4', hk⟩ := hr w h4
  unfold wpOp
  simp only [ho, hw, if_true]
  left
  simp only [Oper.wp, he, hs, Oper.upon_value, hd]
  exact hX _ _ hk _ _ (h1.bind dst v (by rw [h2]; exact hlt)) (by rw [put_size]; exact h2) (by rw [put_defers]; exact h3) h4'

theorem ro_mv {v : Value} {K : Env → Hp → Prop} (h : stepG fn.ntmps ops i ρ = some (some d, pure (.value v))) (hk : K ((d, v) :: ρ) H) : RunOp P fn w0 ops i ρ H K :=
  ro_val h fun w h4 => ⟨v, w, H, rfl, h4, hk⟩
theorem ro_rd {s : Sem Value} {v : Value} {K : Env → Hp → Prop} (h : stepG fn.ntmps ops i ρ = some (some d, vN s)) (hr : Rdo P w0 H s v) (hk : K ((d, v) :: ρ) H) : RunOp P fn w0 ops i ρ H K :=
  ro_val h fun w h4 => ⟨v, w, H, vN_run (hr w h4), h4, hk⟩
theorem ro_alloc {t : TypeId} {z : Value} {K : Env → Hp → Prop} (h : stepG fn.ntmps ops i ρ = some (some d, vN (Instr.alloc t true (.tuple #[])))) (hz : ∀ w, (zeroValue t).run P w = .ok z w)
    (hk : ∀ g, K ((d, .pointer (some ⟨g, 0, none⟩)) :: ρ) (.blk g (.cells z.cells t) :: H)) : RunOp P fn w0 ops i ρ H K :=
  ro_val h fun w h4 => ⟨_, _, _, vN_run (by simp [Instr.alloc, hz, newVar, newRow]), h4.alloc _, hk w.heap.size⟩
theorem ro_skip {K : Env → Hp → Prop} (h : skipG fn.ntmps ops i ρ = some (some d)) (hk : K ((d, undef) :: ρ) H) : RunOp P fn w0 ops i ρ H K := by
  intro Q X hX a w h1 h2 h3 h4
  obtain ⟨o, ho, hw, hd, hlt⟩ := skipG_ok h h1
  unfold wpOp
  simp only [ho, hw, Bool.false_eq_true, if_false, hd]
  exact hX _ _ hk _ _ (h1.put d _ (by rw [h2]; exact hlt d rfl)) (by rw [put_size]; exact h2) (by rw [put_defers]; exact h3) h4

theorem ro_unit {s : Sem Next} {K : Env → Hp → Prop} (h : stepG fn.ntmps ops i ρ = some (none, s))
    (hr : ∀ w, Sat w0 H w → ∃ w' H', s.run P w = .ok .skip w' ∧ Sat w0 H' w' ∧ K ρ H') : RunOp P fn w0 ops i ρ H K := by
  intro Q X hX a w h1 h2 h3 h4
  obtain ⟨o, ho, hw, hd, hlt, he⟩ := stepG_ok h h1
  obtain ⟨w', H', hs, h4', hk⟩ := hr w h4
  unfold wpOp
  simp only [ho, hw, if_true]
  left
  simp only [Oper.wp, he, hs, Oper.upon_skip, hd]
  exact hX _ _ hk _ _ h1 h2 h3 h4'

theorem ro_store {T t : TypeId} {j g off n : Nat} {c c' : Array Value} {v : Value} {H' : Hp} {K : Env → Hp → Prop} (h : stepG fn.ntmps ops i ρ = some (none, uN (Instr.storeAt T (.pointer (some ⟨g, off, none⟩)) v)))
    (hn : ∀ w, (sizeOf T).run P w = .ok n w) (hvs : v.cells.size = n) (h1 : v.cells.toList.all Value.oneCell' = true) (hH : H[j]? = some (.blk g (.cells c t))) (hs : Nat.ble (off + n) c.size = true) (hc : setAll c off v.cells.toList = c') (hH' : H.set j (.blk g (.cells c' t)) = H')
    (hk : K ρ H') : RunOp P fn w0 ops i ρ H K := by
  refine ro_unit h fun w h4 => ?_
  have hm := h4.mem j _ hH
  obtain ⟨w', r1, r2, r3, r4, r5, r6, r7⟩ := run_storeVar (P := P) hn hvs h1 hm.2 (Nat.le_of_ble_eq_true hs)
  refine ⟨w', H', uN_run r1, ?_, hk⟩
  subst hH' hc
  exact h4.write hH rfl r3 r4 r5 (by omega) (fun b _ hb => r7 b hb) ⟨hm.1, r2⟩ (fun b hb => .inl (by simpa [HI.foot] using hb.symm))

/-! ### A region's head: operations that write to nothing that was there -/

inductive PI where
  | val (J : List Nat) (f : List Value → Value)
  | rel (J : List Nat) (Q : List Value → Value → Hp → Prop)
  | skip

def PI.isRel : PI → Bool
  | .rel _ _ => true
  | _ => false

def pv (pl : List PI) (V : Nat → Value) (i : Nat) : Value :=
  match pl[i]? with
  | some (.val J f) => f (J.map V)
  | some (.rel _ _) => V i
  | _ => undef

def pq (pl : List PI) (V : Nat → Value) (i : Nat) (h : Hp) : Prop :=
  match pl[i]? with
  | some (.rel J Q) => Q (J.map V) (V i) h
  | _ => True

def PI.J : PI → List Nat
  | .val J _ => J
  | .rel J _ => J
  | .skip => []

/-- What a plan says of one operation: what it reads of the region's own (D), which of the calls before it it hangs on (B), slots that it reads as they were (O). -/
structure Pn where
  D : List Nat
  B : List Nat
  O : Env

def depB (ops : Array Oper) (i j : Nat) : Bool :=
  match ops[i]? with
  | some o => o.after.any fun e => Region.binds .any e && Nat.beq e.on j
  | none => false

def dstOf (ops : Array Oper) (i : Nat) : Option Tmp :=
  match ops[i]? with
  | some o => o.dst
  | none => none

def envD (ops : Array Oper) (pl : List PI) (V : Nat → Value) : List Nat → Env
  | [] => []
  | j :: l => match dstOf ops j with
    | some d => (d, pv pl V j) :: envD ops pl V l
    | none => envD ops pl V l

def envAt (ops : Array Oper) (pl : List PI) (V : Nat → Value) (ρ1 : Env) (p : Pn) : Env := envD ops pl V p.D ++ (p.O ++ ρ1)

def Yields (P : Program) (s : Sem Next) (w : World) (Q : Value → Hp → Prop) : Prop :=
  (∃ v w' h, s.run P w = .ok (.value v) w' ∧ Sat w h w' ∧ Q v h) ∨ (∃ f args, s.run P w = .ok (.enter f args) w ∧ Fn P f args w Q)

/-- What is to be shown of one operation. -/
def Ob (P : Program) (fn : Func) (w0 : World) (ops : Array Oper) (pl : List PI) (ρ1 : Env) (H : Hp) (i : Nat) (p : Pn) (V : Nat → Value) (hs : Nat → Hp) : Prop :=
  match pl[i]? with
  | some (.val J f) => ∃ dst s, stepG fn.ntmps ops i (envAt ops pl V ρ1 p) = some (dst, s) ∧ ∀ w, Sat w0 (p.B.flatMap hs ++ H) w → Yields P s w fun v _ => v = f (J.map V)
  | some (.rel J Q) => ∃ dst s, stepG fn.ntmps ops i (envAt ops pl V ρ1 p) = some (dst, s) ∧ ∀ w, Sat w0 (p.B.flatMap hs ++ H) w → Yields P s w (Q (J.map V))
  | some .skip => ∃ dst, skipG fn.ntmps ops i (envAt ops pl V ρ1 p) = some dst
  | none => False

def ObL (P : Program) (fn : Func) (w0 : World) (ops : Array Oper) (pl : List PI) (ρ1 : Env) (H : Hp) : Nat → List Pn → Prop
  | _, [] => True
  | i, p :: l => (∀ V hs, (∀ j ∈ p.B, pq pl V j (hs j)) → Ob P fn w0 ops pl ρ1 H i p V hs) ∧ ObL P fn w0 ops pl ρ1 H (i + 1) l

theorem ObL.get {pl : List PI} {ρ1 : Env} : ∀ {l : List Pn} {i : Nat}, ObL P fn w0 ops pl ρ1 H i l → ∀ q p, l[q]? = some p → ∀ V hs, (∀ j ∈ p.B, pq pl V j (hs j)) → Ob P fn w0 ops pl ρ1 H (i + q) p V hs
  | [], _, _, q, p, hp => by simp at hp
  | x :: l, i, h, q, p, hp => by
    cases q with
    | zero => simp at hp; subst hp; exact h.1
    | succ q =>
      have := ObL.get h.2 q p (by simpa using hp)
      rwa [show i + 1 + q = i + (q + 1) by omega] at this

def isRelAt (pl : List PI) (j : Nat) : Bool := match pl[j]? with | some p => p.isRel | none => false

/-- The look at a plan. -/
def planOk (ops : Array Oper) (n : Nat) (pl : List PI) (ps : List Pn) (ρ1 : Env) : Bool :=
  Nat.beq pl.length ps.length && Nat.ble pl.length ops.size &&
  (List.range ops.size).all fun i =>
    -- the edges lead back; the slots are apart
    (match ops[i]? with | some o => o.after.all (fun e => !Region.binds .any e || Nat.blt e.on i) | none => true) &&
    (match dstOf ops i with
      | some d => Nat.blt d n && ρ1.all (fun x => !Nat.beq x.1 d) && (List.range i).all (fun j => match dstOf ops j with | some d' => !Nat.beq d' d | none => true)
      | none => true) &&
    (match ps[i]? with
      | some p =>
        p.D.all (fun j => depB ops i j && Nat.blt j pl.length) &&
        p.B.all (fun j => isRelAt pl j && Nat.blt j i && (depB ops i j || (List.range i).any (fun x => depB ops i x && (match ps[x]? with | some q => q.B.any (Nat.beq j) | none => false)))) &&
        decide p.B.Nodup &&
        (match pl[i]? with | some x => x.J.all (fun j => p.B.any (Nat.beq j)) | none => false) &&
        p.O.all (fun x => (List.range ops.size).all fun q => match dstOf ops q with | some d => !Nat.beq d x.1 || depB ops q i | none => true)
      | none => true)


theorem look_app (a b : Env) (t : Nat) : look (a ++ b) t = match look a t with | some v => some v | none => look b t := by
  induction a with
  | nil => rfl
  | cons x a ih =>
    obtain ⟨s, v⟩ := x
    simp only [List.cons_append, look]
    cases hb : Nat.beq s t with
    | true => simp
    | false => simpa using ih

theorem look_mem {a : Env} {t : Nat} {v : Value} (h : look a t = some v) : (t, v) ∈ a := by
  induction a with
  | nil => simp [look] at h
  | cons x a ih =>
    obtain ⟨s, u⟩ := x
    simp only [look] at h
    cases hb : Nat.beq s t with
    | true =>
      have := Nat.eq_of_beq_eq_true hb
      subst this
      simp at h
      subst h
      exact List.mem_cons_self ..
    | false =>
      rw [hb] at h
      simp at h
      exact List.mem_cons_of_mem _ (ih h)

theorem envD_mem {pl : List PI} {V : Nat → Value} : ∀ {D : List Nat} {t : Nat} {v : Value}, look (envD ops pl V D) t = some v → ∃ j ∈ D, dstOf ops j = some t ∧ v = pv pl V j
  | [], t, v, h => by simp [envD, look] at h
  | j :: D, t, v, h => by
    simp only [envD] at h
    cases hd : dstOf ops j with
    | none =>
      rw [hd] at h
      obtain ⟨q, h1, h2⟩ := envD_mem h
      exact ⟨q, List.mem_cons_of_mem _ h1, h2⟩
    | some d =>
      rw [hd] at h
      simp only [look] at h
      cases hb : Nat.beq d t with
      | true =>
        have := Nat.eq_of_beq_eq_true hb
        subst this
        simp at h
        exact ⟨j, List.mem_cons_self .., hd, h.symm⟩
      | false =>
        rw [hb] at h
        simp at h
        obtain ⟨q, h1, h2⟩ := envD_mem h
        exact ⟨q, List.mem_cons_of_mem _ h1, h2⟩

structure PlanOk (ops : Array Oper) (n : Nat) (pl : List PI) (ps : List Pn) (ρ1 : Env) : Prop where
  len : pl.length = ps.length
  le : pl.length ≤ ops.size
  back : ∀ (i : Nat) (o : Oper), ops[i]? = some o → ∀ e ∈ o.after, Region.binds .any e = true → e.on < i
  dlt : ∀ (i d : Nat), i < ops.size → dstOf ops i = some d → d < n
  d1 : ∀ (i d : Nat), i < ops.size → dstOf ops i = some d → ∀ x ∈ ρ1, x.1 ≠ d
  dd : ∀ (i j d : Nat), i < ops.size → j < i → dstOf ops i = some d → dstOf ops j ≠ some d
  D : ∀ (i : Nat) (p : Pn), ps[i]? = some p → ∀ j ∈ p.D, depB ops i j = true
  B : ∀ (i : Nat) (p : Pn), ps[i]? = some p → ∀ j ∈ p.B, isRelAt pl j = true ∧ j < i ∧ (depB ops i j = true ∨ ∃ x q, x < i ∧ depB ops i x = true ∧ ps[x]? = some q ∧ j ∈ q.B)
  Bn : ∀ (i : Nat) (p : Pn), ps[i]? = some p → p.B.Nodup
  J : ∀ (i : Nat) (p : Pn), ps[i]? = some p → ∀ (x : PI), pl[i]? = some x → ∀ j ∈ x.J, j ∈ p.B
  O : ∀ (i : Nat) (p : Pn), ps[i]? = some p → ∀ x ∈ p.O, ∀ q, q < ops.size → dstOf ops q = some x.1 → depB ops q i = true

theorem planOk_ok {n : Nat} {pl : List PI} {ps : List Pn} {ρ1 : Env} (h : planOk ops n pl ps ρ1 = true) : PlanOk ops n pl ps ρ1 := by
  simp only [planOk, Bool.and_eq_true, List.all_eq_true, List.mem_range] at h
  obtain ⟨⟨h1, h2⟩, h3⟩ := h
  have hlen := Nat.eq_of_beq_eq_true h1
  have hle := Nat.le_of_ble_eq_true h2
  have pin : ∀ (i : Nat) (p : Pn), ps[i]? = some p → i < ops.size := fun i p hp => by
    have := (List.getElem?_eq_some_iff.1 hp).1
    omega
  have oin : ∀ (i : Nat) (o : Oper), ops[i]? = some o → i < ops.size := fun i o ho => (Array.getElem?_eq_some_iff.1 ho).1
  refine ⟨hlen, hle, ?_, ?_, ?_, ?_, ?_, ?_, ?_, ?_, ?_⟩
  · intro i o ho e he hb
    have := (h3 i (oin i o ho)).1.1
    rw [ho] at this
    have := Array.all_eq_true_iff_forall_mem.1 this e he
    simp [hb] at this
    simpa [Nat.blt_eq] using this
  · intro i d hi hd
    have := (h3 i hi).1.2
    rw [hd] at this
    simp only [Bool.and_eq_true] at this
    simpa [Nat.blt_eq] using this.1.1
  · intro i d hi hd x hx e
    have := (h3 i hi).1.2
    rw [hd] at this
    simp only [Bool.and_eq_true, List.all_eq_true] at this
    have := this.1.2 x hx
    rw [e] at this
    simp at this
  · intro i j d hi hj hd hd'
    have := (h3 i hi).1.2
    rw [hd] at this
    simp only [Bool.and_eq_true, List.all_eq_true, List.mem_range] at this
    have := this.2 j hj
    rw [hd'] at this
    simp at this
  all_goals
    intro i p hp
    have hh := (h3 i (pin i p hp)).2
    rw [hp] at hh
    simp only [Bool.and_eq_true, List.all_eq_true] at hh
    obtain ⟨⟨⟨⟨g1, g2⟩, g3⟩, g4⟩, g5⟩ := hh
  · exact fun j hj => (g1 j hj).1
  · intro j hj
    obtain ⟨⟨q1, q2⟩, q3⟩ := g2 j hj
    refine ⟨q1, by simpa [Nat.blt_eq] using q2, ?_⟩
    simp only [Bool.or_eq_true, List.any_eq_true, List.mem_range, Bool.and_eq_true] at q3
    rcases q3 with q3 | ⟨x, hx, q4, q5⟩
    · exact .inl q3
    · right
      cases hpx : ps[x]? with
      | none => simp [hpx] at q5
      | some q =>
        rw [hpx] at q5
        simp only [List.any_eq_true] at q5
        obtain ⟨y, hy, hy2⟩ := q5
        obtain rfl := Nat.eq_of_beq_eq_true hy2
        exact ⟨x, q, hx, q4, hpx, hy⟩
  · exact of_decide_eq_true g3
  · intro x hx j hj
    rw [hx] at g4
    have := List.all_eq_true.1 g4 j hj
    simp only [List.any_eq_true] at this
    obtain ⟨y, hy, hy2⟩ := this
    obtain rfl := Nat.eq_of_beq_eq_true hy2
    exact hy
  · intro x hx q hq hd
    have := g5 x hx q (List.mem_range.2 hq)
    rw [hd] at this
    simp at this
    exact this

structure Inv (fn : Func) (w0 : World) (ops : Array Oper) (pl : List PI) (ρ : Env) (H : Hp) (listed : Array Bool) (a : Act) (w : World) (V : Nat → Value) (hs : Nat → Hp) (ord : List Nat) : Prop where
  sz : listed.size = ops.size
  nd : ord.Nodup
  mem : ∀ i, i ∈ ord ↔ (i < ops.size ∧ listed.getD i false = true)
  head : ∀ i ∈ ord, i < pl.length
  closed : ∀ i ∈ ord, ∀ j, depB ops i j = true → j ∈ ord
  tm : a.tmps.size = fn.ntmps
  df : a.defers = []
  new : ∀ i ∈ ord, ∀ d, dstOf ops i = some d → a.tmps[d]? = some (pv pl V i)
  old : ∀ t v, look ρ t = some v → (∀ i ∈ ord, dstOf ops i ≠ some t) → a.tmps[t]? = some v
  sat : Sat w0 ((ord.filter (isRelAt pl)).flatMap hs ++ H) w
  rel : ∀ i ∈ ord, pq pl V i (hs i)

theorem depB_spec {i j : Nat} (h : depB ops i j = true) : ∃ o, ops[i]? = some o ∧ ∃ e ∈ o.after, Region.binds .any e = true ∧ e.on = j := by
  unfold depB at h
  cases ho : ops[i]? with
  | none => simp [ho] at h
  | some o =>
    simp only [ho] at h
    obtain ⟨e, he, hb⟩ := Array.any_eq_true'.1 h
    simp only [Bool.and_eq_true] at hb
    exact ⟨o, rfl, e, he, hb.1, Nat.eq_of_beq_eq_true hb.2⟩

theorem depB_of {i j : Nat} {o : Oper} (ho : ops[i]? = some o) {e : Edge} (he : e ∈ o.after) (hb : Region.binds .any e = true) (hj : e.on = j) : depB ops i j = true := by
  unfold depB
  simp only [ho]
  refine Array.any_eq_true'.2 ⟨e, he, ?_⟩
  simp [hb, hj]

section
variable {n : Nat} {pl : List PI} {ps : List Pn} {ρ1 : Env} {listed : Array Bool} {a : Act} {w : World} {V : Nat → Value} {hs : Nat → Hp} {ord : List Nat}

/-- What a ready operation waits for is done. -/
theorem Inv.ready (inv : Inv fn w0 ops pl ρ H listed a w V hs ord) (ok : PlanOk ops fn.ntmps pl ps ρ1) (hi : i ∈ Region.ready .any ops listed) : i < ops.size ∧ i ∉ ord ∧ ∀ j, depB ops i j = true → j ∈ ord := by
  obtain ⟨h0, o, ho, hall⟩ := mem_ready.1 hi
  have hlt := (Array.getElem?_eq_some_iff.1 ho).1
  refine ⟨hlt, fun h => ?_, fun j hj => ?_⟩
  · have := (inv.mem i).1 h
    have hsz : i < listed.size := by rw [inv.sz]; exact hlt
    have h2 := this.2
    simp [hsz] at h0 h2
    rw [h0] at h2
    cases h2
  · obtain ⟨o', ho', e, he, hb, rfl⟩ := depB_spec hj
    rw [ho] at ho'
    obtain rfl := Option.some.inj ho'
    have hl := hall e he hb
    refine (inv.mem _).2 ⟨?_, hl⟩
    have := ok.back i o ho e he hb
    omega

theorem Inv.rels (inv : Inv fn w0 ops pl ρ H listed a w V hs ord) (ok : PlanOk ops fn.ntmps pl ps ρ1) : ∀ (i : Nat) (p : Pn), ps[i]? = some p → (∀ j, depB ops i j = true → j ∈ ord) → ∀ j ∈ p.B, j ∈ ord := by
  intro i
  induction i using Nat.strongRecOn with
  | _ i ih =>
    intro p hp hd j hj
    obtain ⟨_, hlt, h | ⟨x, q, hx, h1, h2, h3⟩⟩ := ok.B i p hp j hj
    · exact hd j h
    · exact ih x hx q h2 (inv.closed x (hd x h1)) j h3

theorem Inv.env (inv : Inv fn w0 ops pl ρ H listed a w V hs ord) (ok : PlanOk ops fn.ntmps pl ps ρ1) (h1 : EnvSub ρ1 ρ) {p : Pn} (hp : ps[i]? = some p) (hO : EnvSub p.O ρ) (hni : i ∉ ord) (hd : ∀ j, depB ops i j = true → j ∈ ord) : EnvOk (envAt ops pl V ρ1 p) a.tmps := by
  intro t v ht
  unfold envAt at ht
  rw [look_app] at ht
  cases he : look (envD ops pl V p.D) t with
  | some u =>
    rw [he] at ht
    obtain rfl := Option.some.inj ht
    obtain ⟨j, hj, hdj, rfl⟩ := envD_mem he
    exact inv.new j (hd j (ok.D i p hp j hj)) t hdj
  | none =>
    rw [he] at ht
    simp only at ht
    rw [look_app] at ht
    cases ho : look p.O t with
    | some u =>
      rw [ho] at ht
      obtain rfl := Option.some.inj ht
      refine inv.old t u (hO.ok t u ho) fun q hq hdq => ?_
      have := ok.O i p hp _ (look_mem ho) q ((inv.mem q).1 hq).1 hdq
      exact hni (inv.closed q hq i this)
    | none =>
      rw [ho] at ht
      simp only at ht
      refine inv.old t v (h1.ok t v ht) fun q hq hdq => ?_
      exact ok.d1 q t ((inv.mem q).1 hq).1 hdq _ (look_mem ht) rfl

theorem dst_ne (ok : PlanOk ops fn.ntmps pl ps ρ1) {i j : Nat} (hi : i < ops.size) (hj : j < ops.size) (hij : i ≠ j) {d : Nat} (h1 : dstOf ops i = some d) : dstOf ops j ≠ some d := by
  rcases Nat.lt_or_ge i j with h | h
  · intro h2; exact ok.dd j i d hj h h2 h1
  · exact ok.dd i j d hi (by omega) h1

theorem pv_same {V' : Nat → Value} (ok : PlanOk ops fn.ntmps pl ps ρ1) {j : Nat} {p : Pn} (hp : ps[j]? = some p) (hj : V' j = V j) (hB : ∀ x ∈ p.B, V' x = V x) : pv pl V' j = pv pl V j ∧ ∀ h, pq pl V' j h ↔ pq pl V j h := by
  unfold pv pq
  cases hx : pl[j]? with
  | none => exact ⟨rfl, fun _ => Iff.rfl⟩
  | some x =>
    have hJ : x.J.map V' = x.J.map V := List.map_congr_left fun y hy => hB y (ok.J j p hp x hx y hy)
    cases x with
    | val J f => exact ⟨congrArg f hJ, fun _ => Iff.rfl⟩
    | rel J Q =>
      have hJ' : J.map V' = J.map V := hJ
      simp only [hJ', hj]
      exact ⟨trivial, fun _ => trivial⟩
    | skip => exact ⟨rfl, fun _ => Iff.rfl⟩

/-- One more. -/
theorem Inv.put (inv : Inv fn w0 ops pl ρ H listed a w V hs ord) (ok : PlanOk ops fn.ntmps pl ps ρ1) {p : Pn} (hp : ps[i]? = some p) (him : i < pl.length) (hi : i < ops.size) (hni : i ∉ ord) (hd : ∀ j, depB ops i j = true → j ∈ ord)
    {V' : Nat → Value} {hs' : Nat → Hp} {v : Value} {w' : World} (hV : ∀ j, j ≠ i → V' j = V j) (hhs : ∀ j, j ≠ i → hs' j = hs j) (hv : pv pl V' i = v) (hq : pq pl V' i (hs' i))
    (hsat : Sat w0 (((i :: ord).filter (isRelAt pl)).flatMap hs' ++ H) w') : Inv fn w0 ops pl ρ H (listed.setIfInBounds i true) (a.put (dstOf ops i) v) w' V' hs' (i :: ord) := by
  have same : ∀ j ∈ ord, pv pl V' j = pv pl V j ∧ ∀ h, pq pl V' j h ↔ pq pl V j h := by
    intro j hj
    have hjm := inv.head j hj
    have hjp : j < ps.length := by rw [← ok.len]; exact hjm
    have hne : j ≠ i := fun e => hni (e ▸ hj)
    refine pv_same ok (List.getElem?_eq_getElem hjp) (hV j hne) fun x hx => hV x fun e => hni ?_
    exact e ▸ inv.rels ok j _ (List.getElem?_eq_getElem hjp) (inv.closed j hj) x hx
  refine ⟨by simp [inv.sz], List.nodup_cons.2 ⟨hni, inv.nd⟩, ?_, ?_, ?_, by rw [put_size]; exact inv.tm, by rw [put_defers]; exact inv.df, ?_, ?_, hsat, ?_⟩
  · intro j
    have hsz : i < listed.size := by rw [inv.sz]; exact hi
    by_cases e : j = i
    · subst e
      simp [hsz, hi]
    · rw [List.mem_cons, getD_set_ne false (fun h => e h.symm), ← inv.mem j]
      simp [e]
  · intro j hj
    rcases List.mem_cons.1 hj with rfl | hj
    · exact him
    · exact inv.head j hj
  · intro j hj q hdq
    rcases List.mem_cons.1 hj with rfl | hj
    · exact List.mem_cons_of_mem _ (hd q hdq)
    · exact List.mem_cons_of_mem _ (inv.closed j hj q hdq)
  · intro j hj d hdj
    rcases List.mem_cons.1 hj with rfl | hj
    · rw [hdj, hv]
      have := ok.dlt j d hi hdj
      simp [Act.put, inv.tm, this]
    · rw [(same j hj).1]
      have hji := ((inv.mem j).1 hj).1
      have h0 := inv.new j hj d hdj
      cases hdi : dstOf ops i with
      | none => exact h0
      | some d' =>
        have : d' ≠ d := fun e => dst_ne ok hi hji (fun e => hni (e ▸ hj)) hdi (e ▸ hdj)
        simp only [Act.put]
        rw [Array.getElem?_setIfInBounds_ne this]
        exact h0
  · intro t u ht hall
    have h0 := inv.old t u ht fun j hj => hall j (List.mem_cons_of_mem _ hj)
    have hti := hall i (List.mem_cons_self ..)
    cases hdi : dstOf ops i with
    | none => exact h0
    | some d' =>
      have : d' ≠ t := fun e => hti (e ▸ hdi)
      simp only [Act.put]
      rw [Array.getElem?_setIfInBounds_ne this]
      exact h0
  · intro j hj
    rcases List.mem_cons.1 hj with rfl | hj
    · exact hq
    · have hne : j ≠ i := fun e => hni (e ▸ hj)
      rw [hhs j hne]
      exact ((same j hj).2 _).2 (inv.rel j hj)

/-- A ready operation of the head. -/
theorem Inv.op (inv : Inv fn w0 ops pl ρ H listed a w V hs ord) (ok : PlanOk ops fn.ntmps pl ps ρ1) (h1 : EnvSub ρ1 ρ) (hO : ∀ p ∈ ps, EnvSub p.O ρ) (hob : ObL P fn w0 ops pl ρ1 H 0 ps) (hi : i ∈ Region.ready .any ops listed) (him : i < pl.length)
    {Q : Exit → Act → World → Prop} {X : Act → World → Prop} (hX : ∀ a' w' V' hs', Inv fn w0 ops pl ρ H (listed.setIfInBounds i true) a' w' V' hs' (i :: ord) → X a' w') : wpOp P ops Q i X a w := by
  obtain ⟨hlt, hni, hd⟩ := inv.ready ok hi
  have hps : i < ps.length := by rw [← ok.len]; exact him
  have hp : ps[i]? = some ps[i] := List.getElem?_eq_getElem hps
  have hB := inv.rels ok i _ hp hd
  have henv := inv.env ok h1 hp (hO _ (List.getElem_mem hps)) hni hd
  have ob := hob.get i _ hp V hs (fun j hj => inv.rel j (hB j hj))
  rw [Nat.zero_add] at ob
  have hpart : Sat w0 (ps[i].B.flatMap hs ++ H) w := inv.sat.part (ok.Bn i _ hp) fun x hx => List.mem_filter.2 ⟨hB x hx, (ok.B i _ hp x hx).1⟩
  have hxi : pl[i]? = some pl[i] := List.getElem?_eq_getElem him
  unfold Ob at ob
  rw [hxi] at ob
  cases hpi : pl[i] with
  | val J f =>
    rw [hpi] at ob hxi
    obtain ⟨dst, s, hst, hy⟩ := ob
    obtain ⟨o, ho, hw, hdst, hdl, he⟩ := stepG_ok hst henv
    have hdo : dstOf ops i = dst := by simp [dstOf, ho, hdst]
    have hrel : isRelAt pl i = false := by simp [isRelAt, hxi, PI.isRel]
    have done : ∀ v w', v = f (J.map V) → Sat w0 ((ord.filter (isRelAt pl)).flatMap hs ++ H) w' → X (a.put o.dst v) w' := by
      intro v w' hv hs2
      rw [hdst, ← hdo]
      refine hX _ _ V hs (inv.put ok hp him hlt hni hd (fun _ _ => rfl) (fun _ _ => rfl) ?_ ?_ ?_)
      · simp [pv, hxi, hv]
      · simp [pq, hxi]
      · rw [List.filter_cons_of_neg (by simp [hrel])]; exact hs2
    unfold wpOp
    simp only [ho, hw, if_true]
    left
    rcases hy w hpart with ⟨v, w', h, hr, hsn, hv⟩ | ⟨f', args, hr, hf⟩
    · simp only [Oper.wp, he, hr, Oper.upon_value]
      exact done v w' hv (inv.sat.grow hsn).drop
    · simp only [Oper.wp, he, hr, Oper.upon_enter]
      refine hf.mono ?_
      rintro e w' ⟨v, h, rfl, hsn, hv⟩
      exact done v w' hv (inv.sat.grow hsn).drop
  | rel J Q' =>
    rw [hpi] at ob hxi
    obtain ⟨dst, s, hst, hy⟩ := ob
    obtain ⟨o, ho, hw, hdst, hdl, he⟩ := stepG_ok hst henv
    have hdo : dstOf ops i = dst := by simp [dstOf, ho, hdst]
    have hrel : isRelAt pl i = true := by simp [isRelAt, hxi, PI.isRel]
    have done : ∀ v h w', Q' (J.map V) v h → Sat w h w' → X (a.put o.dst v) w' := by
      intro v h w' hq hs2
      rw [hdst, ← hdo]
      have hJ : J.map (fun j => if j = i then v else V j) = J.map V := List.map_congr_left fun y hy => by
        have h3 := ok.J i _ hp _ hxi y hy
        have h4 := (ok.B i _ hp y h3).2.1
        show (if y = i then v else V y) = V y
        rw [if_neg (by omega)]
      refine hX _ _ (fun j => if j = i then v else V j) (fun j => if j = i then h else hs j) (inv.put ok hp him hlt hni hd (fun j hj => by simp [hj]) (fun j hj => by simp [hj]) ?_ ?_ ?_)
      · simp [pv, hxi]
      · simp only [pq, hxi, hJ, if_true]; exact hq
      · rw [List.filter_cons_of_pos (by simp [hrel]), List.flatMap_cons]
        simp only [if_true, List.append_assoc]
        have e2 : (ord.filter (isRelAt pl)).flatMap (fun j => if j = i then h else hs j) = (ord.filter (isRelAt pl)).flatMap hs := by
          have : ∀ (l : List Nat), (∀ j ∈ l, j ≠ i) → l.flatMap (fun j => if j = i then h else hs j) = l.flatMap hs := by
            intro l
            induction l with
            | nil => intro _; rfl
            | cons x l ih =>
              intro hl
              rw [List.flatMap_cons, List.flatMap_cons, ih fun j hj => hl j (List.mem_cons_of_mem _ hj), if_neg (hl x (List.mem_cons_self ..))]
          exact this _ fun j hj e => hni (e ▸ (List.mem_filter.1 hj).1)
        rw [e2]
        exact inv.sat.grow hs2
    unfold wpOp
    simp only [ho, hw, if_true]
    left
    rcases hy w hpart with ⟨v, w', h, hr, hsn, hv⟩ | ⟨f', args, hr, hf⟩
    · simp only [Oper.wp, he, hr, Oper.upon_value]
      exact done v h w' hv hsn
    · simp only [Oper.wp, he, hr, Oper.upon_enter]
      refine hf.mono ?_
      rintro e w' ⟨v, h, rfl, hsn, hv⟩
      exact done v h w' hv hsn
  | skip =>
    rw [hpi] at ob hxi
    obtain ⟨dst, hst⟩ := ob
    obtain ⟨o, ho, hw, hdst, hdl⟩ := skipG_ok hst henv
    have hdo : dstOf ops i = dst := by simp [dstOf, ho, hdst]
    have hrel : isRelAt pl i = false := by simp [isRelAt, hxi, PI.isRel]
    unfold wpOp
    simp only [ho, hw, Bool.false_eq_true, if_false]
    rw [hdst, ← hdo]
    refine hX _ _ V hs (inv.put ok hp him hlt hni hd (fun _ _ => rfl) (fun _ _ => rfl) ?_ ?_ ?_)
    · simp [pv, hxi]
    · simp [pq, hxi]
    · rw [List.filter_cons_of_neg (by simp [hrel])]; exact inv.sat

/-- All that an operation waits for, in the end. -/
def ancs (ops : Array Oper) : Nat → List (List Nat)
  | 0 => []
  | n + 1 =>
    let r := ancs ops n
    let ds := (List.range n).filter (depB ops n)
    r ++ [ds ++ ds.flatMap fun j => r.getD j []]

theorem ancs_length (n : Nat) : (ancs ops n).length = n := by
  induction n with
  | zero => rfl
  | succ n ih => simp [ancs, ih]

theorem ancs_get : ∀ (n t : Nat), t < n → (ancs ops n).getD t [] = ((List.range t).filter (depB ops t)) ++ ((List.range t).filter (depB ops t)).flatMap fun j => (ancs ops t).getD j [] := by
  intro n
  induction n with
  | zero => intro t h; omega
  | succ n ih =>
    intro t ht
    simp only [ancs]
    by_cases e : t = n
    · subst e
      rw [List.getD_eq_getElem?_getD, List.getElem?_append_right (by rw [ancs_length]; exact Nat.le_refl _), ancs_length]
      simp
    · rw [List.getD_eq_getElem?_getD, List.getElem?_append_left (by rw [ancs_length]; omega), ← List.getD_eq_getElem?_getD]
      exact ih t (by omega)

theorem Inv.ancs (inv : Inv fn w0 ops pl ρ H listed a w V hs ord) : ∀ (t : Nat), (∀ j, depB ops t j = true → j ∈ ord) → ∀ n, t < n → ∀ x ∈ (ancs ops n).getD t [], x ∈ ord := by
  intro t
  induction t using Nat.strongRecOn with
  | _ t ih =>
    intro hd n hn x hx
    rw [ancs_get n t hn] at hx
    rcases List.mem_append.1 hx with h | h
    · exact hd x (List.mem_filter.1 h).2
    · obtain ⟨j, hj, hx2⟩ := List.mem_flatMap.1 h
      obtain ⟨h3, h4⟩ := List.mem_filter.1 hj
      have hjt := List.mem_range.1 h3
      exact ih j hjt (inv.closed j (hd j h4)) t hjt x hx2

/-- Nothing behind the head comes up before it is done. -/
def tailB (ops : Array Oper) (m : Nat) : Bool :=
  Nat.beq m ops.size || (let r := ancs ops ops.size; (List.range ops.size).all fun t => Nat.blt t m || (List.range m).all fun i => (r.getD t []).any (Nat.beq i))

def listedTo (m n : Nat) : Array Bool := ((List.range n).map fun i => Nat.blt i m).toArray

theorem region_head (ok : PlanOk ops fn.ntmps pl ps ρ1) (h1 : EnvSub ρ1 ρ) (hO : ∀ p ∈ ps, EnvSub p.O ρ) (hob : ObL P fn w0 ops pl ρ1 H 0 ps) (ht : tailB ops pl.length = true) {Q : Exit → Act → World → Prop}
    (hfin : ∀ a w V hs, Inv fn w0 ops pl ρ H (listedTo pl.length ops.size) a w V hs ((List.range pl.length)) → wpAny P .any ops Q (ops.size - pl.length) (listedTo pl.length ops.size) a w) :
    ∀ (fuel : Nat) (listed : Array Bool) (a : Act) (w : World) (V : Nat → Value) (hs : Nat → Hp) (ord : List Nat), Inv fn w0 ops pl ρ H listed a w V hs ord → fuel + ord.length = ops.size → wpAny P .any ops Q fuel listed a w := by
  have allIn : ∀ (ord : List Nat), ord.Nodup → (∀ x ∈ ord, x < pl.length) → ord.length ≤ pl.length ∧ (ord.length = pl.length → (List.range pl.length).Perm ord) := by
    intro ord hn hb
    obtain ⟨r, hr⟩ := perm_front ord (List.range pl.length) hn (fun x hx => List.mem_range.2 (hb x hx))
    have hl := hr.length_eq
    rw [List.length_range, List.length_append] at hl
    refine ⟨by omega, fun h => ?_⟩
    have : r = [] := List.eq_nil_of_length_eq_zero (by omega)
    subst this
    simpa using hr
  have done : ∀ (fuel : Nat) (listed : Array Bool) (a : Act) (w : World) (V : Nat → Value) (hs : Nat → Hp) (ord : List Nat), Inv fn w0 ops pl ρ H listed a w V hs ord → fuel + ord.length = ops.size → ord.length = pl.length → wpAny P .any ops Q fuel listed a w := by
    intro fuel listed a w V hs ord inv hlen hm
    have hp := (allIn ord inv.nd inv.head).2 hm
    have hmem : ∀ i, i ∈ ord ↔ i < pl.length := fun i => by rw [← hp.mem_iff, List.mem_range]
    have hl : listed = listedTo pl.length ops.size := by
      apply Array.ext
      · simp [inv.sz, listedTo]
      · intro i h3 h4
        rw [inv.sz] at h3
        have h5 := inv.mem i
        rw [hmem] at h5
        have h6 : listed.getD i false = listed[i] := by simp [inv.sz, h3]
        rw [h6] at h5
        simp only [listedTo, List.getElem_toArray, List.getElem_map, List.getElem_range]
        rw [Bool.eq_iff_iff, Nat.blt_eq]
        exact ⟨fun h => h5.2 ⟨h3, h⟩, fun h => (h5.1 h).2⟩
    subst hl
    have hf : fuel = ops.size - pl.length := by omega
    subst hf
    refine hfin a w V hs ⟨inv.sz, List.nodup_range, fun i => (hp.mem_iff).trans (inv.mem i), fun i hi => inv.head i (hp.mem_iff.1 hi), fun i hi j hj => hp.mem_iff.2 (inv.closed i (hp.mem_iff.1 hi) j hj), inv.tm, inv.df, fun i hi => inv.new i (hp.mem_iff.1 hi), fun t v h hall => inv.old t v h fun i hi => hall i (hp.mem_iff.2 hi), ?_, fun i hi => inv.rel i (hp.mem_iff.1 hi)⟩
    exact inv.sat.perm (((hp.symm.filter _).flatMap_right hs).append_right H)
  intro fuel
  induction fuel with
  | zero =>
    intro listed a w V hs ord inv hlen
    have := (allIn ord inv.nd inv.head).1
    have := ok.le
    exact done 0 listed a w V hs ord inv hlen (by omega)
  | succ fuel ih =>
    intro listed a w V hs ord inv hlen
    by_cases hm : ord.length = pl.length
    · exact done _ listed a w V hs ord inv hlen hm
    · have hlt : ord.length < pl.length := by have := (allIn ord inv.nd inv.head).1; omega
      have hex : ∃ i, i < pl.length ∧ i ∉ ord := by
        refine Classical.byContradiction fun hno => ?_
        have hall : ∀ i, i < pl.length → i ∈ ord := fun i hi => Classical.byContradiction fun h => hno ⟨i, hi, h⟩
        obtain ⟨r, hr⟩ := perm_front (List.range pl.length) ord List.nodup_range (fun x hx => hall x (List.mem_range.1 hx))
        have := hr.length_eq
        rw [List.length_append, List.length_range] at this
        omega
      refine ⟨fun h0 => ?_, fun i hi => ?_⟩
      · obtain ⟨i, hi, hno⟩ := hex
        have key : ∀ i, i < ops.size → i ∉ ord → ∃ j, j ∈ Region.ready .any ops listed := by
          intro i
          induction i using Nat.strongRecOn with
          | _ i ih2 =>
            intro hi hno
            by_cases hd : ∀ j, depB ops i j = true → j ∈ ord
            · refine ⟨i, mem_ready.2 ⟨?_, ops[i], Array.getElem?_eq_getElem hi, fun e he hb => ?_⟩⟩
              · have hsz : i < listed.size := by rw [inv.sz]; exact hi
                cases hc : listed.getD i true with
                | false => rfl
                | true =>
                  refine absurd ((inv.mem i).2 ⟨hi, ?_⟩) hno
                  simp [hsz] at hc ⊢
                  exact hc
              · exact ((inv.mem _).1 (hd e.on (depB_of (Array.getElem?_eq_getElem hi) he hb rfl))).2
            · obtain ⟨j, hj⟩ := Classical.not_forall.1 hd
              obtain ⟨hj1, hj2⟩ := Classical.not_imp.1 hj
              obtain ⟨o, ho, e, he, hb, rfl⟩ := depB_spec hj1
              have hback := ok.back i o ho e he hb
              exact ih2 e.on hback (by omega) hj2
        obtain ⟨j, hj⟩ := key i (by have := ok.le; omega) hno
        rw [h0] at hj
        cases hj
      · have him : i < pl.length := by
          refine Classical.byContradiction fun hge => ?_
          obtain ⟨h4, h5, h6⟩ := inv.ready ok hi
          simp only [tailB, Bool.or_eq_true, List.all_eq_true, List.mem_range] at ht
          rcases ht with ht | ht
          · have := Nat.eq_of_beq_eq_true ht
            omega
          · rcases ht i h4 with h7 | h7
            · rw [Nat.blt_eq] at h7
              exact hge h7
            · obtain ⟨q, hq, hno⟩ := hex
              have h8 := h7 q hq
              simp only [List.any_eq_true] at h8
              obtain ⟨x, hx, hx2⟩ := h8
              obtain rfl := Nat.eq_of_beq_eq_true hx2
              exact hno (inv.ancs i h6 ops.size h4 _ hx)
        exact inv.op ok h1 hO hob hi him fun a' w' V' hs' inv' => ih _ a' w' V' hs' (i :: ord) inv' (by simp; omega)

end

/-- The items of the calls of a region's head. -/
def relsOf (pl : List PI) : List Nat := (List.range pl.length).filter (isRelAt pl)

/-- **A region that draws: its head told operation by operation, its tail in any order.** -/
theorem run_par {c : Code} (hc : Code.kind c = .region ops true) (hm : P.follows .mixedOrders = true) (pl : List PI) (ps : List Pn) (ρ1 : Env) (hok : planOk ops fn.ntmps pl ps ρ1 = true) (ht : tailB ops pl.length = true) (h1 : EnvSub ρ1 ρ) (hO : ∀ p ∈ ps, EnvSub p.O ρ)
    (hob : ObL P fn w0 ops pl ρ1 H 0 ps)
    (hk : ∀ V hs, (∀ i ∈ relsOf pl, pq pl V i (hs i)) → RunAny P fn w0 ops (ops.size - pl.length) (listedTo pl.length ops.size) k (envD ops pl V (List.range pl.length) ++ ρ) ((relsOf pl).flatMap hs ++ H) R) : Run P fn w0 (.code c :: k) ρ H R := by
  cases c <;> simp [Code.kind] at hc
  obtain ⟨rfl, rfl⟩ := hc
  have ok := planOk_ok hok
  intro a w g1 g2 g3 g4
  refine wp_region_any hm ?_
  rename_i ops
  refine region_head ok h1 hO hob ht (fun a w V hs inv => ?_) _ _ a _ (fun _ => undef) (fun _ => []) [] ?_ (by simp)
  · refine hk V hs (fun i hi => inv.rel i (List.mem_filter.1 hi).1) a w ?_ inv.tm inv.df inv.sat
    intro t v htv
    rw [look_app] at htv
    cases he : look (envD ops pl V (List.range pl.length)) t with
    | some u =>
      rw [he] at htv
      obtain rfl := Option.some.inj htv
      obtain ⟨j, hj, hdj, rfl⟩ := envD_mem he
      exact inv.new j hj t hdj
    | none =>
      rw [he] at htv
      refine inv.old t v htv fun i hi hdi => ?_
      have : ∀ (l : List Nat), i ∈ l → look (envD ops pl V l) t ≠ none := by
        intro l
        induction l with
        | nil => intro h; cases h
        | cons x l ih =>
          intro hx
          simp only [envD]
          by_cases e : i = x
          · subst e
            rw [hdi]
            simp [look]
          · have := ih ((List.mem_cons.1 hx).resolve_left e)
            cases hdx : dstOf _ x with
            | none => exact this
            | some d =>
              simp only [look]
              cases hb : Nat.beq d t with
              | true => simp
              | false => simpa using this
      exact this _ hi he
  · refine ⟨by simp, List.nodup_nil, ?_, by simp, by simp, g2, g3, by simp, fun t v h _ => g1 t v h, g4.draws 1, by simp⟩
    intro i
    simp only [List.not_mem_nil, false_iff]
    rintro ⟨h2, h3⟩
    simp [h2] at h3

end
end Go.Proofs.YthapghhmeicbnaaDoor
