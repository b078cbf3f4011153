/- The machine's side, told once: regions that draw their order. -/
import Derived.Test.YtlhbekiplnmolaaDoorED
import Derived.Orders
set_option linter.unusedVariables false
set_option linter.unusedSimpArgs false
namespace Go.Proofs.YtlhbekiplnmolaaDoor
open Go.RowKit

def depB (ops : Array Oper) (i j : Nat) : Bool :=
  match ops[i]? with
  | some o => o.after.any fun e => Region.binds .any e && Nat.beq e.on j
  | none => false
def dstOf (ops : Array Oper) (i : Nat) : Option Tmp :=
  match ops[i]? with
  | some o => o.dst
  | none => none
theorem depB_spec {ops : Array Oper} {i j : Nat} (h : depB ops i j = true) : ∃ o, ops[i]? = some o ∧ ∃ e ∈ o.after, Region.binds .any e = true ∧ e.on = j := by
  unfold depB at h
  cases ho : ops[i]? with
  | none => simp [ho] at h
  | some o =>
    simp only [ho] at h
    obtain ⟨e, he, hb⟩ := Array.any_eq_true'.1 h
    simp only [Bool.and_eq_true] at hb
    exact ⟨o, rfl, e, he, hb.1, Nat.eq_of_beq_eq_true hb.2⟩

/-- The slots that the head's operation reads of the head's own. -/
def resEnv (ops : Array Oper) (i : Nat) : List AVal → Nat → AEnv
  | [], _ => []
  | α :: l, j => match dstOf ops j with
    | some d => if depB ops i j then (d, α) :: resEnv ops i l (j + 1) else resEnv ops i l (j + 1)
    | none => resEnv ops i l (j + 1)
def allEnv (ops : Array Oper) : List AVal → Nat → AEnv
  | [], _ => []
  | α :: l, j => match dstOf ops j with
    | some d => (d, α) :: allEnv ops l (j + 1)
    | none => allEnv ops l (j + 1)
/-- One operation of the head, out of what it waits for. -/
def headOne (P : Program) (orc : List (Nat × Orc)) (dec : List (Nat × Bool)) (ops : Array Oper) (ρ1 : AEnv) (H : AStore) (res : List AVal) (i : Nat) : PR :=
  match ops[i]? with
  | none => none
  | some o => match gdE ops o (resEnv ops i res 0 ++ ρ1) with
    | none => none
    | some false => some (.undef, [])
    | some true => match o.op with
      | .call ⟨.value fx, xs, ts⟩ => match look orc i with
        | some q => match evA P (resEnv ops i res 0 ++ ρ1) 0 fx, evL P (resEnv ops i res 0 ++ ρ1) (ts.toList.zip xs.toList) with
          | some α, some l => if Nat.beq ts.toList.length xs.toList.length then match callA P H l q α with
            | some (β, C) => some ((dcd dec i β).1, C ++ (dcd dec i β).2)
            | none => none
            else none
          | _, _ => none
        | none => none
      | _ => match pv P (resEnv ops i res 0 ++ ρ1) H o.type o.op with
        | some (β, C) => some ((dcd dec i β).1, C ++ (dcd dec i β).2)
        | none => none
def headE (P : Program) (orc : List (Nat × Orc)) (dec : List (Nat × Bool)) (ops : Array Oper) (ρ1 : AEnv) (H : AStore) : Nat → Option (List AVal × List Prop)
  | 0 => some ([], [])
  | k + 1 => match headE P orc dec ops ρ1 H k with
    | some (res, C) => match headOne P orc dec ops ρ1 H res k with
      | some (β, C') => some (res ++ [β], C ++ C')
      | none => none
    | none => none

/-- What an operation waits for, and what that waits for. -/
def closes (ops : Array Oper) : Nat → Nat → Nat → Bool
  | 0, _, _ => false
  | d + 1, i, j => (List.range i).any fun x => depB ops i x && (Nat.beq x j || closes ops d x j)
def listedTo (m n : Nat) : Array Bool := ((List.range n).map fun i => Nat.blt i m).toArray
def planOk (ops : Array Oper) (nt m : Nat) (ρ1 : AEnv) : Bool :=
  Nat.ble m ops.size &&
  (List.range ops.size).all (fun i => match ops[i]? with | some o => o.after.all (fun e => !Region.binds .any e || Nat.blt e.on i) | none => true) &&
  (List.range m).all (fun i => match dstOf ops i with
    | some d => Nat.blt d nt && ρ1.all (fun x => !Nat.beq x.1 d) && (List.range i).all (fun j => match dstOf ops j with | some d' => !Nat.beq d' d | none => true)
    | none => true) &&
  (Nat.beq m ops.size || (List.range m).all (fun j => closes ops 40 m j)) &&
  (List.range ops.size).all (fun i => Nat.ble i m || closes ops 40 i (i - 1)) &&
  (List.range (ops.size + 1)).all (fun i => Nat.blt i m || (match Region.ready .any ops (listedTo i ops.size) with | [x] => Nat.beq x i | [] => Nat.beq i ops.size | _ => false))

section
variable {P : Program} {fn : Func} {n0 : Nat} {b : Base n0} {R : Exit → Act → World → Prop} {k : List KI} {ρ ρ1 : AEnv} {H : AStore} {ops : Array Oper} {orc : List (Nat × Orc)} {dec : List (Nat × Bool)}

theorem headE_len : ∀ {k : Nat} {res : List AVal} {C : List Prop}, headE P orc dec ops ρ1 H k = some (res, C) → res.length = k
  | 0, res, C, h => by simp only [headE, Option.some.injEq, Prod.mk.injEq] at h; rw [← h.1]; rfl
  | k + 1, res, C, h => by
    simp only [headE] at h
    split at h
    · rename_i r c h1
      split at h
      · simp only [Option.some.injEq, Prod.mk.injEq] at h
        rw [← h.1]
        simp [headE_len h1]
      · cases h
    · cases h

theorem resEnv_app {i : Nat} : ∀ {l m : List AVal} {j : Nat}, (∀ x, j + l.length ≤ x → depB ops i x = false) → resEnv ops i (l ++ m) j = resEnv ops i l j
  | [], m, j, h => by
    induction m generalizing j with
    | nil => rfl
    | cons α m ih =>
      have h0 := h j (by simp)
      show resEnv ops i (α :: m) j = []
      simp only [resEnv, h0]
      have := ih (j := j + 1) (fun x hx => h x (by simp at hx ⊢; omega))
      simp only [List.nil_append] at this
      split <;> simp_all [resEnv]
  | α :: l, m, j, h => by
    have := resEnv_app (i := i) (l := l) (m := m) (j := j + 1) (fun x hx => h x (by simp at hx ⊢; omega))
    simp only [List.cons_append, resEnv, this]

theorem headE_get (hback : ∀ i j, depB ops i j = true → j < i) : ∀ {k : Nat} {res : List AVal} {C : List Prop}, headE P orc dec ops ρ1 H k = some (res, C) → AllP C → ∀ i, i < k → ∃ β C', res[i]? = some β ∧ headOne P orc dec ops ρ1 H res i = some (β, C') ∧ AllP C'
  | 0, res, C, h, _, i, hi => by omega
  | k + 1, res, C, h, hC, i, hi => by
    simp only [headE] at h
    split at h
    · rename_i r c h1
      split at h
      · rename_i β C' h2
        simp only [Option.some.injEq, Prod.mk.injEq] at h
        obtain ⟨rfl, rfl⟩ := h
        obtain ⟨c1, c2⟩ := AllP.app hC
        have hl := headE_len h1
        have same : ∀ i, i ≤ k → headOne P orc dec ops ρ1 H (r ++ [β]) i = headOne P orc dec ops ρ1 H r i := by
          intro i hi
          have : resEnv ops i (r ++ [β]) 0 = resEnv ops i r 0 := by
            refine resEnv_app fun x hx => ?_
            cases hd : depB ops i x with
            | false => rfl
            | true => have := hback i x hd; omega
          simp only [headOne, this]
        rcases Nat.lt_or_ge i k with hik | hik
        · obtain ⟨β', C'', g1, g2, g3⟩ := headE_get hback h1 c1 i hik
          exact ⟨β', C'', by rw [List.getElem?_append_left (by omega)]; exact g1, by rw [same i (by omega)]; exact g2, g3⟩
        · obtain rfl : i = k := by omega
          exact ⟨β, C', by rw [List.getElem?_append_right (by omega), hl]; simp, by rw [same i (Nat.le_refl _)]; exact h2, c2⟩
      · cases h
    · cases h

structure PlanOk (ops : Array Oper) (nt m : Nat) (ρ1 : AEnv) : Prop where
  le : m ≤ ops.size
  back : ∀ i j, depB ops i j = true → j < i
  dlt : ∀ i d, i < m → dstOf ops i = some d → d < nt
  d1 : ∀ i d, i < m → dstOf ops i = some d → ∀ x ∈ ρ1, x.1 ≠ d
  dd : ∀ i j d, i < m → j < i → dstOf ops i = some d → dstOf ops j ≠ some d
  tail : m < ops.size → ∀ j, j < m → closes ops 40 m j = true
  next : ∀ i, m < i → i < ops.size → closes ops 40 i (i - 1) = true
  seq : ∀ i, m ≤ i → i < ops.size → Region.ready .any ops (listedTo i ops.size) = [i]
  fin : Region.ready .any ops (listedTo ops.size ops.size) = []

theorem planOk_ok {nt m : Nat} (h : planOk ops nt m ρ1 = true) : PlanOk ops nt m ρ1 := by
  simp only [planOk, Bool.and_eq_true] at h
  obtain ⟨⟨⟨⟨⟨h1, h2⟩, h3⟩, h4⟩, h5⟩, h6⟩ := h
  have hle := Nat.le_of_ble_eq_true h1
  simp only [List.all_eq_true, List.mem_range] at h2 h3 h5 h6
  refine ⟨hle, ?_, ?_, ?_, ?_, ?_, ?_, ?_, ?_⟩
  · intro i j hd
    obtain ⟨o, ho, e, he, hb, rfl⟩ := depB_spec hd
    have := h2 i (Array.getElem?_eq_some_iff.1 ho).1
    rw [ho] at this
    have := Array.all_eq_true_iff_forall_mem.1 this e he
    simp [hb] at this
    simpa [Nat.blt_eq] using this
  · intro i d hi hd
    have := h3 i hi
    rw [hd] at this
    simp only [Bool.and_eq_true] at this
    simpa [Nat.blt_eq] using this.1.1
  · intro i d hi hd x hx e
    have := h3 i hi
    rw [hd] at this
    simp only [Bool.and_eq_true, List.all_eq_true] at this
    have := this.1.2 x hx
    rw [e] at this
    simp at this
  · intro i j d hi hj hd hd'
    have := h3 i hi
    rw [hd] at this
    simp only [Bool.and_eq_true, List.all_eq_true, List.mem_range] at this
    have := this.2 j hj
    rw [hd'] at this
    simp at this
  · intro hm j hj
    simp only [Bool.or_eq_true, List.all_eq_true, List.mem_range] at h4
    rcases h4 with h4 | h4
    · have := Nat.eq_of_beq_eq_true h4; omega
    · exact h4 j hj
  · intro i hi hlt
    have := h5 i hlt
    simp only [Bool.or_eq_true] at this
    rcases this with h | h
    · have := Nat.le_of_ble_eq_true h; omega
    · exact h
  · intro i hi hlt
    have := h6 i (by omega)
    simp only [Bool.or_eq_true] at this
    rcases this with h | h
    · rw [Nat.blt_eq] at h; omega
    · split at h
      · rename_i x hx
        have := Nat.eq_of_beq_eq_true h
        rw [hx, this]
      · have := Nat.eq_of_beq_eq_true h; omega
      · cases h
  · have := h6 ops.size (by omega)
    simp only [Bool.or_eq_true] at this
    rcases this with h | h
    · rw [Nat.blt_eq] at h; omega
    · split at h
      · rename_i x hx
        have e := Nat.eq_of_beq_eq_true h
        have hm : x ∈ Region.ready .any ops (listedTo ops.size ops.size) := by rw [hx]; exact List.mem_singleton.2 rfl
        obtain ⟨h0, o, ho, _⟩ := mem_ready.1 hm
        have := (Array.getElem?_eq_some_iff.1 ho).1
        omega
      · assumption
      · cases h

theorem listed_next {i n : Nat} (h : i < n) : (listedTo i n).setIfInBounds i true = listedTo (i + 1) n := by
  apply Array.ext
  · simp [listedTo]
  · intro j h1 h2
    simp only [listedTo, List.setIfInBounds_toArray, List.getElem_toArray, List.getElem_set, List.getElem_map, List.getElem_range]
    by_cases e : i = j
    · subst e; simp [Nat.blt_eq]
    · simp only [if_neg e]
      rw [Bool.eq_iff_iff, Nat.blt_eq, Nat.blt_eq]
      omega

/-- The tail, one after the other. -/
theorem any_seq {nt m : Nat} (ok : PlanOk ops nt m ρ1) {Q : Exit → Act → World → Prop} : ∀ (d i : Nat), i + d = ops.size → m ≤ i → ∀ a w, wpOps P ops Q (List.range' i d) a w → wpAny P .any ops Q d (listedTo i ops.size) a w
  | 0, i, hd, hm, a, w, h => by
    simp only [Nat.add_zero] at hd
    subst hd
    exact ⟨ok.fin, h⟩
  | d + 1, i, hd, hm, a, w, h => by
    have hr := ok.seq i hm (by omega)
    refine ⟨fun h0 => (by rw [hr] at h0; cases h0), fun j hj => ?_⟩
    rw [hr] at hj
    obtain rfl := List.mem_singleton.1 hj
    rw [List.range'_succ, wpOps_cons] at h
    refine wpOp_mono (fun a' w' h' => ?_) h
    rw [listed_next (by omega)]
    exact any_seq ok d (j + 1) (by omega) (by omega) a' w' h'

structure Inv (P : Program) (fn : Func) {n0 : Nat} (b : Base n0) (ops : Array Oper) (m : Nat) (ρ1 : AEnv) (H : AStore) (res : List AVal) (listed : Array Bool) (ord : List Nat) (a : Act) (w : World) : Prop where
  sz : listed.size = ops.size
  nd : ord.Nodup
  mem : ∀ i, i ∈ ord ↔ (i < ops.size ∧ listed.getD i false = true)
  head : ∀ i ∈ ord, i < m
  closed : ∀ i ∈ ord, ∀ j, depB ops i j = true → j ∈ ord
  tm : a.tmps.size = fn.ntmps
  df : a.defers = []
  st : ∃ M φ ξ, Core P b M φ ξ H w ∧ EnvR P M φ ρ1 a.tmps ∧ ∀ i ∈ ord, ∀ d α, dstOf ops i = some d → res[i]? = some α → ∃ v, a.tmps[d]? = some v ∧ RelV P M φ α v

theorem closes_in {ord : List Nat} (hc : ∀ i ∈ ord, ∀ j, depB ops i j = true → j ∈ ord) : ∀ (d i j : Nat), (∀ x, depB ops i x = true → x ∈ ord) → closes ops d i j = true → j ∈ ord
  | 0, i, j, _, h => by simp [closes] at h
  | d + 1, i, j, hi, h => by
    simp only [closes, List.any_eq_true, List.mem_range, Bool.and_eq_true, Bool.or_eq_true] at h
    obtain ⟨x, _, h1, h2⟩ := h
    have hx := hi x h1
    rcases h2 with h2 | h2
    · obtain rfl := Nat.eq_of_beq_eq_true h2; exact hx
    · exact closes_in hc d x j (hc x hx) h2

theorem nodup_lt {l : List Nat} {m : Nat} (h : l.Nodup) (hl : ∀ i ∈ l, i < m) : l.length ≤ m := by
  have := h.length_le_of_subset (l₂ := List.range m) fun i hi => List.mem_range.2 (hl i hi)
  simpa using this
theorem nodup_ge {l : List Nat} {m : Nat} (h : ∀ i, i < m → i ∈ l) : m ≤ l.length := by
  have := (List.nodup_range (n := m)).length_le_of_subset (l₂ := l) fun i hi => h i (List.mem_range.1 hi)
  simpa using this

theorem look_resEnv {i : Nat} : ∀ {l : List AVal} {j t : Nat} {α : AVal}, look (resEnv ops i l j) t = some α → ∃ q, l[q]? = some α ∧ dstOf ops (j + q) = some t ∧ depB ops i (j + q) = true
  | [], j, t, α, h => by simp [resEnv, look] at h
  | β :: l, j, t, α, h => by
    have go : look (resEnv ops i l (j + 1)) t = some α → ∃ q, (β :: l)[q]? = some α ∧ dstOf ops (j + q) = some t ∧ depB ops i (j + q) = true := fun h => by
      obtain ⟨q, h1, h2, h3⟩ := look_resEnv h
      exact ⟨q + 1, by simpa using h1, by rwa [show j + (q + 1) = j + 1 + q by omega], by rwa [show j + (q + 1) = j + 1 + q by omega]⟩
    simp only [resEnv] at h
    split at h
    · rename_i d hd
      split at h
      · rename_i hdep
        simp only [look] at h
        split at h
        · rename_i e
          have e := Nat.eq_of_beq_eq_true e
          simp only [Option.some.injEq] at h
          subst e h
          exact ⟨0, rfl, hd, hdep⟩
        · exact go h
      · exact go h
    · exact go h
theorem look_allEnv : ∀ {l : List AVal} {j t : Nat} {α : AVal}, look (allEnv ops l j) t = some α → ∃ q, l[q]? = some α ∧ dstOf ops (j + q) = some t
  | [], j, t, α, h => by simp [allEnv, look] at h
  | β :: l, j, t, α, h => by
    have go : look (allEnv ops l (j + 1)) t = some α → ∃ q, (β :: l)[q]? = some α ∧ dstOf ops (j + q) = some t := fun h => by
      obtain ⟨q, h1, h2⟩ := look_allEnv h
      exact ⟨q + 1, by simpa using h1, by rwa [show j + (q + 1) = j + 1 + q by omega]⟩
    simp only [allEnv] at h
    split at h
    · rename_i d hd
      simp only [look] at h
      split at h
      · rename_i e
        have e := Nat.eq_of_beq_eq_true e
        simp only [Option.some.injEq] at h
        subst e h
        exact ⟨0, rfl, hd⟩
      · exact go h
    · exact go h
theorem look_app {α : Type} (a c : List (Nat × α)) (t : Nat) : look (a ++ c) t = match look a t with | some v => some v | none => look c t := by
  induction a with
  | nil => rfl
  | cons x a ih =>
    obtain ⟨s, v⟩ := x
    simp only [List.cons_append, look]
    cases hb : Nat.beq s t with
    | true => simp
    | false => simpa using ih

theorem headOne_ok {M : Fz} {φ : Nat → Value} {ξ : Nat → Option Nat} {w : World} {a : Act} {res : List AVal} {i : Nat} {β : AVal} {C : List Prop} (hc : Core P b M φ ξ H w) (he : EnvR P M φ (resEnv ops i res 0 ++ ρ1) a.tmps) (h : headOne P orc dec ops ρ1 H res i = some (β, C)) (hC : AllP C) :
    ∃ o, ops[i]? = some o ∧ ((Region.wanted o (yielded ops a.tmps) = false ∧ β = .undef) ∨ (Region.wanted o (yielded ops a.tmps) = true ∧ Yld P o a w fun v w' => ∃ M', Core P b M' φ ξ H w' ∧ M.le M' ∧ RelV P M' φ β v)) := by
  unfold headOne at h
  split at h
  · cases h
  · rename_i o ho
    refine ⟨o, ho, ?_⟩
    split at h
    · cases h
    · rename_i hg
      simp only [Option.some.injEq, Prod.mk.injEq] at h
      exact .inl ⟨gdE_ok he hg, h.1.symm⟩
    · rename_i hg
      right
      refine ⟨gdE_ok he hg, ?_⟩
      obtain ⟨dst, op, ty, pos, after, guard⟩ := o
      have pure : (match pv P (resEnv ops i res 0 ++ ρ1) H ty op with | some (β, C) => some ((dcd dec i β).1, C ++ (dcd dec i β).2) | none => none) = some (β, C) → Yld P ⟨dst, op, ty, pos, after, guard⟩ a w fun v w' => ∃ M', Core P b M' φ ξ H w' ∧ M.le M' ∧ RelV P M' φ β v := by
        intro h
        split at h
        · rename_i γ C' hp
          simp only [Option.some.injEq, Prod.mk.injEq] at h
          obtain ⟨rfl, rfl⟩ := h
          obtain ⟨c1, c2⟩ := AllP.app hC
          obtain ⟨v, h1, h2⟩ := pv_ok (o := ⟨dst, op, ty, pos, after, guard⟩) hc he hp c1
          exact .inl ⟨v, w, h1, M, hc, Fz.le_refl _, dcd_ok h2 c2⟩
        · cases h
      cases op with
      | call c =>
        obtain ⟨callee, xs, ts⟩ := c
        cases callee with
        | value fx =>
          simp only at h
          split at h
          · rename_i q hq
            split at h
            · rename_i α l hα hl
              split at h
              · rename_i hn
                split at h
                · rename_i γ C' hca
                  simp only [Option.some.injEq, Prod.mk.injEq] at h
                  obtain ⟨rfl, rfl⟩ := h
                  obtain ⟨c1, c2⟩ := AllP.app hC
                  have := does_callM (ts := ts) (ty := ty) (dst := dst) (pos := pos) (after := after) (guard := guard) hα hl (Nat.eq_of_beq_eq_true hn) hca c1 M φ ξ w a hc he
                  rcases this with ⟨v, w', h1, M', h2, h3, h4⟩ | ⟨w', h1, M', h2, h3, h4⟩ | ⟨f, args, h1, h2⟩
                  · exact .inl ⟨v, w', h1, M', h2, h3, dcd_ok h4 c2⟩
                  · exact .inr (.inl ⟨w', h1, M', h2, h3, dcd_ok h4 c2⟩)
                  · refine .inr (.inr ⟨f, args, h1, h2.mono ?_⟩)
                    rintro e w' ⟨v, rfl, M', h2, h3, h4⟩
                    exact ⟨v, rfl, M', h2, h3, dcd_ok h4 c2⟩
                · cases h
              · cases h
            · cases h
          · cases h
        | _ => exact pure h
      | _ => exact pure h

theorem put_get {a : Act} {dst : Option Tmp} {v : Value} {t : Nat} (h : dst ≠ some t) : (a.put dst v).tmps[t]? = a.tmps[t]? := by
  cases dst with
  | none => rfl
  | some d =>
    have : d ≠ t := fun e => h (by rw [e])
    simp [Act.put, this]

theorem head_any {nt m : Nat} (hnt : nt = fn.ntmps) (ok : PlanOk ops nt m ρ1) {res : List AVal} (hres : ∀ i, i < m → ∃ β C', res[i]? = some β ∧ headOne P orc dec ops ρ1 H res i = some (β, C') ∧ AllP C')
    (tail : ∀ a w, St P b (allEnv ops res 0 ++ ρ1) H a.tmps w → a.tmps.size = fn.ntmps → a.defers = [] → wpOps P ops (kwp P R k) (List.range' m (ops.size - m)) a w) (hl : res.length = m) :
    ∀ (fuel : Nat) (listed : Array Bool) (ord : List Nat) (a : Act) (w : World), ord.length + fuel = ops.size → Inv P fn b ops m ρ1 H res listed ord a w → wpAny P .any ops (kwp P R k) fuel listed a w := by
  intro fuel
  have full : ∀ (listed : Array Bool) (ord : List Nat) (a : Act) (w : World), m ≤ ord.length → Inv P fn b ops m ρ1 H res listed ord a w → ord.length = m ∧ listed = listedTo m ops.size ∧ St P b (allEnv ops res 0 ++ ρ1) H a.tmps w := by
    intro listed ord a w hm inv
    have h1 := nodup_lt inv.nd inv.head
    have hall : ∀ i, i < m → i ∈ ord := by
      intro i hi
      rcases Decidable.em (i ∈ ord) with h | h
      · exact h
      · exfalso
        have := nodup_lt (l := i :: ord) (m := m) (List.nodup_cons.2 ⟨h, inv.nd⟩) (fun j hj => by
          rcases List.mem_cons.1 hj with rfl | hj
          · exact hi
          · exact inv.head j hj)
        simp at this
        omega
    refine ⟨by omega, ?_, ?_⟩
    · apply Array.ext
      · simp [listedTo, inv.sz]
      · intro j h2 h3
        have hj : j < ops.size := by rw [← inv.sz]; exact h2
        have := inv.mem j
        simp only [hj, true_and] at this
        have e : listed.getD j false = listed[j] := by simp [Array.getD, h2]
        rw [e] at this
        have e2 : (listedTo m ops.size)[j] = Nat.blt j m := by simp [listedTo]
        rw [e2, Bool.eq_iff_iff, ← this, Nat.blt_eq]
        exact ⟨inv.head j, hall j⟩
    · obtain ⟨M, φ, ξ, g1, g2, g3⟩ := inv.st
      refine ⟨M, φ, ξ, g1, fun t α ht => ?_⟩
      rw [look_app] at ht
      cases hq : look (allEnv ops res 0) t with
      | some γ =>
        rw [hq] at ht
        simp only [Option.some.injEq] at ht
        subst ht
        obtain ⟨q, h4, h5⟩ := look_allEnv hq
        rw [Nat.zero_add] at h5
        have hqm : q < m := by rw [← hl]; exact (List.getElem?_eq_some_iff.1 h4).1
        exact g3 q (hall q hqm) t γ h5 h4
      | none =>
        rw [hq] at ht
        exact g2 t α ht
  induction fuel with
  | zero =>
    intro listed ord a w hlen inv
    have hm : m = ops.size := by have := nodup_lt inv.nd inv.head; have := ok.le; omega
    obtain ⟨_, rfl, hst⟩ := full listed ord a w (by omega) inv
    have := tail a w hst inv.tm inv.df
    rw [hm, Nat.sub_self] at this
    rw [hm]
    exact ⟨ok.fin, this⟩
  | succ fuel ih =>
    intro listed ord a w hlen inv
    rcases Nat.lt_or_ge ord.length m with hlt | hge
    · have rdy : ∀ i, i ∈ Region.ready .any ops listed → i < m ∧ i ∉ ord ∧ ∀ j, depB ops i j = true → j ∈ ord := by
        intro i hi
        obtain ⟨h0, o, ho, hall⟩ := mem_ready.1 hi
        have hi' := (Array.getElem?_eq_some_iff.1 ho).1
        have hdep : ∀ j, depB ops i j = true → j ∈ ord := by
          intro j hj
          obtain ⟨o', ho', e, he, hb, rfl⟩ := depB_spec hj
          rw [ho] at ho'
          obtain rfl := Option.some.inj ho'
          exact (inv.mem _).2 ⟨by have := ok.back i e.on hj; omega, hall e he hb⟩
        refine ⟨?_, fun h => ?_, hdep⟩
        · rcases Nat.lt_or_ge i m with h | h
          · exact h
          · exfalso
            rcases Nat.eq_or_lt_of_le h with h | h
            · subst h
              have := nodup_ge (l := ord) (m := m) fun j hj => closes_in inv.closed 40 m j hdep (ok.tail hi' j hj)
              omega
            · have := inv.head _ (closes_in inv.closed 40 i (i - 1) hdep (ok.next i h hi'))
              omega
        · have h1 := ((inv.mem i).1 h).2
          have hsz : i < listed.size := by rw [inv.sz]; exact hi'
          simp [Array.getD, hsz] at h0 h1
          rw [h0] at h1
          cases h1
      have some' : ∃ i, i ∈ Region.ready .any ops listed := by
        have : ∃ i, i < m ∧ i ∉ ord := by
          rcases Decidable.em (∃ i, i < m ∧ i ∉ ord) with h | h
          · exact h
          · exfalso
            have := nodup_ge (l := ord) (m := m) fun j hj => Decidable.byContradiction fun hn => h ⟨j, hj, hn⟩
            omega
        obtain ⟨i, hi, hn⟩ := this
        induction i using Nat.strongRecOn with
        | _ i ih2 =>
          by_cases hd : ∃ j, depB ops i j = true ∧ j ∉ ord
          · obtain ⟨j, hj, hjn⟩ := hd
            have := ok.back i j hj
            exact ih2 j this (by omega) hjn
          · have hi' : i < ops.size := by have := ok.le; omega
            refine ⟨i, mem_ready.2 ⟨?_, ops[i], Array.getElem?_eq_getElem hi', fun e he hb => ?_⟩⟩
            · have hsz : i < listed.size := by rw [inv.sz]; exact hi'
              cases hv : listed.getD i true with
              | false => rfl
              | true =>
                exfalso
                refine hn ((inv.mem i).2 ⟨hi', ?_⟩)
                simp [Array.getD, hsz] at hv ⊢
                exact hv
            · have hdep : depB ops i e.on = true := by
                unfold depB
                simp only [Array.getElem?_eq_getElem hi']
                exact Array.any_eq_true'.2 ⟨e, he, by simp [hb]⟩
              have : e.on ∈ ord := Decidable.byContradiction fun hn => hd ⟨e.on, hdep, hn⟩
              exact ((inv.mem _).1 this).2
      refine ⟨fun h0 => ?_, fun i hi => ?_⟩
      · obtain ⟨i, hi⟩ := some'
        rw [h0] at hi
        cases hi
      · obtain ⟨him, hni, hdep⟩ := rdy i hi
        have hin : i < ops.size := by have := ok.le; omega
        obtain ⟨β, C', r1, r2, r3⟩ := hres i him
        obtain ⟨M, φ, ξ, g1, g2, g3⟩ := inv.st
        have henv : EnvR P M φ (resEnv ops i res 0 ++ ρ1) a.tmps := by
          intro t α ht
          rw [look_app] at ht
          cases hq : look (resEnv ops i res 0) t with
          | some γ =>
            rw [hq] at ht
            simp only [Option.some.injEq] at ht
            subst ht
            obtain ⟨q, h4, h5, h6⟩ := look_resEnv hq
            rw [Nat.zero_add] at h5 h6
            exact g3 q (hdep q h6) t γ h5 h4
          | none =>
            rw [hq] at ht
            exact g2 t α ht
        -- the state behind it
        have step : ∀ (v : Value) (M' : Fz) (w' : World), Core P b M' φ ξ H w' → M.le M' → RelV P M' φ β v → Inv P fn b ops m ρ1 H res (listed.setIfInBounds i true) (i :: ord) (a.put (dstOf ops i) v) w' := by
          intro v M' w' c1 c2 c3
          refine ⟨by simp [inv.sz], List.nodup_cons.2 ⟨hni, inv.nd⟩, fun j => ?_, fun j hj => ?_, fun j hj q hq => ?_, by rw [put_size]; exact inv.tm, by rw [put_defers]; exact inv.df, M', φ, ξ, c1, fun t α ht => ?_, fun j hj d α hd hα => ?_⟩
          · rw [List.mem_cons, inv.mem j]
            have hsz : i < listed.size := by rw [inv.sz]; exact hin
            by_cases e : j = i
            · subst e
              simp [Array.getD, hsz, hin]
            · have e' : ¬ i = j := fun h => e h.symm
              have hs : (listed.setIfInBounds i true).getD j false = listed.getD j false := by
                rw [Array.getD_eq_getD_getElem?, Array.getD_eq_getD_getElem?, Array.getElem?_setIfInBounds_ne e']
              rw [hs]
              simp [e]
          · rcases List.mem_cons.1 hj with rfl | hj
            · exact him
            · exact inv.head j hj
          · rcases List.mem_cons.1 hj with rfl | hj
            · exact List.mem_cons_of_mem _ (hdep q hq)
            · exact List.mem_cons_of_mem _ (inv.closed j hj q hq)
          · obtain ⟨u, h1, h2⟩ := g2 t α ht
            refine ⟨u, ?_, relV_mono c2 h2⟩
            rw [put_get fun e => ok.d1 i t him e _ (look_mem ht) rfl]
            exact h1
          · rcases List.mem_cons.1 hj with rfl | hj
            · rw [r1] at hα
              obtain rfl := Option.some.inj hα
              refine ⟨v, ?_, c3⟩
              rw [hd]
              have := ok.dlt j d him hd
              simp [Act.put, inv.tm, ← hnt, this]
            · obtain ⟨u, h1, h2⟩ := g3 j hj d α hd hα
              refine ⟨u, ?_, relV_mono c2 h2⟩
              have hne : dstOf ops i ≠ some d := by
                have hjm := inv.head j hj
                intro e
                rcases Nat.lt_trichotomy i j with h | h | h
                · exact ok.dd j i d hjm h hd e
                · subst h; exact hni hj
                · exact ok.dd i j d him h e hd
              rw [put_get hne]
              exact h1
        obtain ⟨o, ho, hcase⟩ := headOne_ok g1 henv r2 r3
        have hdst : dstOf ops i = o.dst := by simp [dstOf, ho]
        unfold wpOp
        simp only [ho]
        rcases hcase with ⟨hw, rfl⟩ | ⟨hw, hy⟩
        · simp only [hw, Bool.false_eq_true, if_false]
          rw [← hdst]
          exact ih _ (i :: ord) _ w (by simp; omega) (step undef M w g1 (Fz.le_refl _) rfl)
        · simp only [hw, if_true]
          left
          unfold Oper.wp
          rcases hy with ⟨v, w', h1, M', h2, h3, h4⟩ | ⟨w', h1, M', h2, h3, h4⟩ | ⟨f, args, h1, h2⟩
          · rw [h1]
            simp only [Oper.upon_value]
            rw [← hdst]
            exact ih _ (i :: ord) _ w' (by simp; omega) (step v M' w' h2 h3 h4)
          · rw [h1]
            simp only [Oper.upon_skip]
            rw [← hdst]
            exact ih _ (i :: ord) _ w' (by simp; omega) (step undef M' w' h2 h3 h4)
          · rw [h1]
            simp only [Oper.upon_enter]
            refine h2.mono ?_
            rintro e w' ⟨v, rfl, M', h2, h3, h4⟩
            simp only
            rw [← hdst]
            exact ih _ (i :: ord) _ w' (by simp; omega) (step v M' w' h2 h3 h4)
    · obtain ⟨h1, rfl, hst⟩ := full listed ord a w hge inv
      have hf : fuel + 1 = ops.size - m := by omega
      rw [hf]
      exact any_seq ok (ops.size - m) m (by have := ok.le; omega) (Nat.le_refl _) a w (tail a w hst inv.tm inv.df)

def keepB (ops : Array Oper) (m : Nat) (ρ : AEnv) : AEnv := ρ.filter fun x => (List.range m).all fun i => match dstOf ops i with | some d => !Nat.beq d x.1 | none => true
def evD (P : Program) (n0 nt : Nat) (orc : List (Nat × Orc)) (dec : List (Nat × Bool)) (L0 m : Nat) (ls lh : List Nat) (ops : Array Oper) (ρ : AEnv) (H : AStore) : Option (AEnv × AStore × List Prop) :=
  if nodupB lh && planOk ops nt m (keepB ops m ρ) then match headE P orc dec ops (keepB ops m ρ) H m with
    | some (res, C1) => match evOps P n0 nt orc dec L0 ops (List.range' m (ops.size - m)) (allEnv ops res 0 ++ keepB ops m ρ) H with
      | some (ρ1, H1, C) => match trimE ls ρ1, trimH lh H1 with
        | some ρ', some H' => some (ρ', H', C1 ++ C)
        | _, _ => none
      | none => none
    | none => none
  else none

theorem look_keep {m t : Nat} {α : AVal} : ∀ {ρ : AEnv}, look (keepB ops m ρ) t = some α → look ρ t = some α
  | [], h => by simp [keepB, look] at h
  | (s, β) :: ρ, h => by
    unfold keepB at h
    simp only [List.filter_cons] at h
    split at h
    · simp only [look] at h ⊢
      split at h
      · rename_i e; rw [if_pos e]; exact h
      · rename_i e; rw [if_neg e]; exact look_keep h
    · rename_i hk
      simp only [look]
      split
      · rename_i e
        have e := Nat.eq_of_beq_eq_true e
        subst e
        exfalso
        have hm := look_mem h
        have := (List.mem_filter.1 hm).2
        exact hk this
      · exact look_keep h

/-- A region that draws its order: its head in any order, then its tail. -/
theorem regD {c : Code} {ρ' : AEnv} {H' : AStore} (orc : List (Nat × Orc)) (dec : List (Nat × Bool)) (L0 m : Nat) (ls lh : List Nat) (C : List Prop) (hm : P.follows .mixedOrders = true) (hc : Code.kind c = .region ops true) (h : evD P n0 fn.ntmps orc dec L0 m ls lh ops ρ H = some (ρ', H', C)) (hC : AllP C) (hr : Run P fn b R k ρ' H') : Run P fn b R (.code c :: k) ρ H := by
  cases c <;> simp [Code.kind] at hc
  obtain ⟨rfl, rfl⟩ := hc
  unfold evD at h
  split at h
  · rename_i hn
    simp only [Bool.and_eq_true] at hn
    split at h
    · rename_i res C1 h1
      split at h
      · rename_i ρ1 H1 C2 h2
        split at h
        · rename_i ρ2 H2 h3 h4
          simp only [Option.some.injEq, Prod.mk.injEq] at h
          obtain ⟨rfl, rfl, rfl⟩ := h
          obtain ⟨c1, c2⟩ := AllP.app hC
          have ok := planOk_ok hn.2
          intro a w g1 g2 g3
          refine wp_region_any hm ?_
          refine head_any rfl ok (headE_get ok.back h1 c1) (fun a w k1 k2 k3 => run_ops h2 c2 (fun a w g1 g2 g3 => hr a w (g1.trim h3 h4 hn.1) g2 g3) a w k1 k2 k3) (headE_len h1) _ _ [] a _ (by simp) ?_
          obtain ⟨M, φ, ξ, q1, q2⟩ := g1
          refine ⟨by simp, List.nodup_nil, fun i => ?_, fun i hi => (by cases hi), fun i hi => (by cases hi), g2, g3, M, φ, ξ, q1.draws 1, fun t α ht => q2 t α (look_keep ht), fun i hi => (by cases hi)⟩
          simp [Array.getD]
        · cases h
      · cases h
    · cases h
  · cases h
end
end Go.Proofs.YtlhbekiplnmolaaDoor
