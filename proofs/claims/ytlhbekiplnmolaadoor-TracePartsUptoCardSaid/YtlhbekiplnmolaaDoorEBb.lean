/- The machine's side, told once: calls of what only computes; the caller's own memory lent for the time of a call. -/
import Derived.Test.YtlhbekiplnmolaaDoorEBa
set_option linter.unusedVariables false
set_option linter.unusedSimpArgs false
namespace Go.Proofs.YtlhbekiplnmolaaDoor
open Go.RowKit

/-! ### Functions that only compute -/
def φ0 : Nat → Value := fun _ => undef
def Pure (P : Program) (f : FuncId) (l : List AVal) (β : AVal) : Prop := Enters P f ∧ ∀ (w : World) (M : Fz) (us : List Value), Over M w → RelVs P M φ0 l us →
  Calls P f us.toArray w fun e w' => ∃ M' v, e = .returned v ∧ Below w.heap.size w w' ∧ M.le M' ∧ (∀ g, g < w.heap.size → M' g = M g) ∧ Over M' w' ∧ RelV P M' φ0 β v

/-- What a callee takes. -/
inductive PSh where
  | v (s : Sh)
  | fp (s : Sh)
  | fn (a b : Sh) (p : a.ty → Option b.ty)

mutual
def AVal.flatB : AVal → Bool
  | .v s _ => s.flat
  | .tup l => AVal.flatL l
  | _ => false
def AVal.flatL : List AVal → Bool
  | [] => true
  | α :: l => α.flatB && AVal.flatL l
end

/-- Rows that a content names, told by what they hold. -/
def rslv (H : AStore) : (s : Sh) → s.ty → Option TV
  | .ref, L => match look H L with
    | some (.row _ s xs) => if s.pers then some ⟨.sl s, xs⟩ else none
    | _ => none
  | .prod a b, x => if (Sh.prod a b).pers then some ⟨.prod a b, x⟩ else match rslv H a x.1, rslv H b x.2 with
    | some y, some z => some ⟨.prod y.1 z.1, (y.2, z.2)⟩
    | _, _ => none
  | .st s, x => match rslv H s x with
    | some y => some ⟨.st y.1, y.2⟩
    | none => none
  | .oref, _ => some ⟨.any, ()⟩
  | s, x => if s.pers then some ⟨s, x⟩ else none
def rsl (H : AStore) (v : TV) : Option TV := if v.1.pers then some v else rslv H v.1 v.2
/-- A caller's value as the callee sees it; the second: whether memory is lent. -/
def lendA (H : AStore) : AVal → Option (AVal × Bool)
  | .v s x => if s.pers then some (.v s x, false) else match rslv H s x with
    | some y => if y.1.fixed && (s.agg == y.1.agg) then some (.v y.1 y.2, true) else none
    | none => none
  | .fp s x => if s.pers then some (.fp s x, false) else none
  | .nilp => some (.nilp, false)
  | .row L => match look H L with
    | some (.row _ s xs) => if s.pers then some (.v (.sl s) xs, true) else none
    | _ => none
  | .ptr L p off => match look H L with
    | some it => match getP it.tv.1 it.tv.2 p with
      | some v => match rsl H v with
        | some y => if rowOk it p && noI p && Nat.beq (offP it.tv.1 p) off && v.1.fixed && y.1.fixed then some (.fp y.1 y.2, true) else none
        | none => none
      | none => none
    | none => none
  | _ => none
def lendL (H : AStore) : List AVal → Option (List AVal × Bool)
  | [] => some ([], false)
  | α :: l => match lendA H α, lendL H l with
    | some (β, z), some (r, z') => some (β :: r, z || z')
    | _, _ => none
def coeP : PSh → AVal → Option AVal
  | .v t, .v s x => if t.fixed && (s.agg == t.agg) then match coeS s t x with
    | some y => some (.v t y)
    | none => none
    else none
  | .fp t, .fp s x => if t.fixed then match coeS s t x with
    | some y => some (.fp t y)
    | none => none
    else none
  | _, _ => none
def argA (P : Program) (H : AStore) : PSh → AVal → Option (AVal × Bool × List Prop)
  | .fn a b p, .clo f l => match lendL H l with
    | some (l', z) => if a.pers && b.pers && a.fixed && b.fixed then some (.v (.fn a b) p, z, [Enters P f, ∀ x y, p x = some y → Pure P f (.v a x :: l') (.v b y)]) else none
    | none => none
  | ps, α => match lendA H α with
    | some (β, z) => match coeP ps β with
      | some γ => some (γ, z, [])
      | none => none
    | none => none
def argL (P : Program) (H : AStore) : List PSh → List AVal → Option (List AVal × Bool × List Prop)
  | [], [] => some ([], false, [])
  | ps :: r, α :: l => match argA P H ps α, argL P H r l with
    | some (β, z, C), some (q, z', C') => some (β :: q, z || z', C ++ C')
    | _, _ => none
  | _, _ => none

section
variable {P : Program} {n0 : Nat} {b : Base n0} {M : Fz} {φ : Nat → Value} {ξ : Nat → Option Nat} {H : AStore} {w : World} {ρ : AEnv}

open Classical in
/-- All that is known is frozen for a while. -/
noncomputable def lentM (M : Fz) (ξ : Nat → Option Nat) (H : AStore) (w : World) : Fz := fun g => match M g with
  | some c => some c
  | none => if ∃ L it, (L, it) ∈ H ∧ ξ L = some g then (match w.heap[g]? with | some (.cells c _ _) => some c | _ => none) else none
theorem lentM_le : M.le (lentM M ξ H w) := fun g c h => by simp [lentM, h]
theorem lentM_over (ho : Over M w) : Over (lentM M ξ H w) w := by
  refine ⟨fun g c h => ?_, ho.gl.mono lentM_le⟩
  unfold lentM at h
  split at h
  · rename_i c' hM
    simp only [Option.some.injEq] at h
    subst h
    exact ho g _ hM
  · split at h
    · split at h
      · rename_i c' t fr hw
        simp only [Option.some.injEq] at h
        subst h
        exact ⟨t, fr, hw⟩
      · cases h
    · cases h
theorem lentM_foot {L : Nat} {it : AItem} {g : Nat} {c : Array Value} {t : TypeId} {fr : Nat × Nat} (hm : M g = none) (hi : (L, it) ∈ H) (hg : ξ L = some g) (hw : w.heap[g]? = some (.cells c t fr)) : lentM M ξ H w g = some c := by
  have : ∃ L it, (L, it) ∈ H ∧ ξ L = some g := ⟨L, it, hi, hg⟩
  simp [lentM, hm, hw]
  exact ⟨L, ⟨it, hi⟩, hg⟩

theorem labs_pers {s : Sh} {x : s.ty} (h : s.pers = true) : s.labs x = [] := by
  induction s with
  | prod a b iha ihb =>
    simp only [Sh.pers, Bool.and_eq_true] at h
    simp [Sh.labs, iha h.1, ihb h.2]
  | st s ih => exact ih h
  | arr n s ih => exact if_pos h
  | lst s ih => exact if_pos h
  | ref => simp [Sh.pers] at h
  | oref => simp [Sh.pers] at h
  | _ => rfl

theorem row_lent (hc : Core P b M φ ξ H w) {L : Nat} {e : TypeId} {s : Sh} {xs : List s.ty} (hl : look H L = some (.row e s xs)) (hp : s.pers = true) : RepC P φ0 (.sl s) (lentM M ξ H w) [φ L] xs ∧ s.fixed = true := by
  obtain ⟨hf, A, cap, h1, h2⟩ := hc.items L _ (look_mem hl)
  refine ⟨?_, hf⟩
  rw [h1]
  rcases h2 with ⟨_, rfl, rfl, rfl⟩ | ⟨g, c, h3, rfl, h5, h6, h7, h8, h9⟩
  · exact ⟨none, 0, 0, [], rfl, rfl, ⟨Nat.le_refl _, by simp [maxLen]⟩, Cl.nil _ _, rfl⟩
  · refine ⟨_, _, cap, _, rfl, rfl, ⟨h6, h7⟩, ?_, rep_pers (s := .lst s) hp (rep_mono lentM_le h9)⟩
    intro q hq
    refine ⟨g, 0, c, rfl, lentM_foot (hc.feet L _ g (look_mem hl) h3).2 (look_mem hl) h3 h5, ?_⟩
    rw [Nat.zero_add, List.getElem?_take_of_lt (by rw [List.length_take] at hq; omega)]
    simp
theorem rslv_ok (hc : Core P b M φ ξ H w) : ∀ {s : Sh} {x : s.ty} {y : TV} {cs : List Value}, rslv H s x = some y → RepC P φ s M cs x → RepC P φ0 y.1 (lentM M ξ H w) cs y.2 ∧ y.1.pers = true := by
  intro s
  have pers : ∀ {s : Sh} {x : s.ty} {y : TV} {cs : List Value}, (if s.pers then some (⟨s, x⟩ : TV) else none) = some y → RepC P φ s M cs x → RepC P φ0 y.1 (lentM M ξ H w) cs y.2 ∧ y.1.pers = true := by
    intro s x y cs h hr
    split at h
    · rename_i hp
      simp only [Option.some.injEq] at h
      subst h
      exact ⟨rep_pers hp (rep_mono lentM_le hr), hp⟩
    · cases h
  induction s with
  | ref =>
    intro x y cs h hr
    simp only [rslv] at h
    split at h
    · rename_i e s xs hl
      split at h
      · rename_i hp
        simp only [Option.some.injEq] at h
        subst h
        obtain ⟨rfl, _⟩ := hr
        exact ⟨(row_lent hc hl hp).1, hp⟩
      · cases h
    · cases h
  | prod a b iha ihb =>
    intro x y cs h hr
    simp only [rslv] at h
    split at h
    · rename_i hp
      simp only [Option.some.injEq] at h
      subst h
      exact ⟨rep_pers hp (rep_mono lentM_le hr), hp⟩
    · split at h
      · rename_i y1 z1 h1 h2
        simp only [Option.some.injEq] at h
        subst h
        obtain ⟨c1, c2, rfl, k1, k2⟩ := hr
        obtain ⟨g1, g2⟩ := iha h1 k1
        obtain ⟨g3, g4⟩ := ihb h2 k2
        exact ⟨⟨c1, c2, rfl, g1, g3⟩, by simp [Sh.pers, g2, g4]⟩
      · cases h
  | st s ih =>
    intro x y cs h hr
    simp only [rslv] at h
    split at h
    · rename_i y1 h1
      simp only [Option.some.injEq] at h
      subst h
      obtain ⟨g1, g2⟩ := ih h1 hr
      exact ⟨g1, g2⟩
    · cases h
  | oref =>
    intro x y cs h hr
    simp only [rslv, Option.some.injEq] at h
    subst h
    obtain ⟨v, h1, rfl, _⟩ := hr
    exact ⟨⟨v, h1, rfl⟩, rfl⟩
  | _ => intro x y cs h hr; exact pers h hr
theorem rsl_ok (hc : Core P b M φ ξ H w) {v y : TV} {cs : List Value} (h : rsl H v = some y) (hr : RepC P φ v.1 M cs v.2) : RepC P φ0 y.1 (lentM M ξ H w) cs y.2 ∧ y.1.pers = true := by
  unfold rsl at h
  split at h
  · rename_i hp
    simp only [Option.some.injEq] at h
    subst h
    exact ⟨rep_pers hp (rep_mono lentM_le hr), hp⟩
  · exact rslv_ok hc h hr

/-- Lent values hold over the frozen view; they name no labels. -/
theorem lendA_ok (hc : Core P b M φ ξ H w) {α β : AVal} {z : Bool} {u : Value} (h : lendA H α = some (β, z)) (hr : RelV P M φ α u) : RelV P (lentM M ξ H w) φ0 β u ∧ (z = false → RelV P M φ0 β u) ∧ β.labs = [] := by
  unfold lendA at h
  split at h
  · split at h
    · rename_i s x hp
      simp only [Option.some.injEq, Prod.mk.injEq] at h
      obtain ⟨rfl, rfl⟩ := h
      obtain ⟨h1, cs, h2, h3⟩ := hr
      have h4 : RelV P M φ0 (.v s x) u := ⟨h1, cs, h2, rep_pers hp h3⟩
      exact ⟨relV_mono lentM_le h4, fun _ => h4, by simp [AVal.labs, hp]⟩
    · split at h
      · rename_i y hy
        split at h
        · rename_i hh
          simp only [Bool.and_eq_true, beq_iff_eq] at hh
          simp only [Option.some.injEq, Prod.mk.injEq] at h
          obtain ⟨rfl, rfl⟩ := h
          obtain ⟨h1, cs, rfl, h3⟩ := hr
          obtain ⟨k1, k2⟩ := rslv_ok hc hy h3
          exact ⟨⟨hh.1, cs, by simp [mkV, hh.2], k1⟩, fun hz => (by cases hz), by simp [AVal.labs, k2]⟩
        · cases h
      · cases h
  · split at h
    · rename_i s x hp
      simp only [Option.some.injEq, Prod.mk.injEq] at h
      obtain ⟨rfl, rfl⟩ := h
      obtain ⟨h1, g, off, cs, h2, h3, h5⟩ := hr
      have h4 : RelV P M φ0 (.fp s x) u := ⟨h1, g, off, cs, h2, h3, rep_pers hp h5⟩
      exact ⟨relV_mono lentM_le h4, fun _ => h4, by simp [AVal.labs, hp]⟩
    · cases h
  · simp only [Option.some.injEq, Prod.mk.injEq] at h
    obtain ⟨rfl, rfl⟩ := h
    exact ⟨hr, fun _ => hr, rfl⟩
  · split at h
    · rename_i L _ e s xs hl
      split at h
      · rename_i hp
        simp only [Option.some.injEq, Prod.mk.injEq] at h
        obtain ⟨rfl, rfl⟩ := h
        obtain ⟨rfl, _⟩ := hr
        obtain ⟨k1, k2⟩ := row_lent hc hl hp
        exact ⟨⟨by simp [Sh.fixed, k2, hp], [φ L], rfl, k1⟩, fun hz => (by cases hz), by simp [AVal.labs, Sh.pers, hp]⟩
      · cases h
    · cases h
  · split at h
    · rename_i L p off _ it hl
      split at h
      · rename_i v hg
        split at h
        · rename_i y hy
          split at h
          · rename_i hh
            simp only [Bool.and_eq_true] at hh
            obtain ⟨⟨⟨⟨k1, k2⟩, k3⟩, k4⟩, k5⟩ := hh
            simp only [Option.some.injEq, Prod.mk.injEq] at h
            obtain ⟨rfl, rfl⟩ := h
            obtain ⟨g, e1, rfl⟩ := hr
            obtain ⟨g', c, T, pre, cs, post, g1, g2, g3, g4, g5, g6, _⟩ := place_ok hc hl k1 hg (okP_noI k2 hg)
            obtain rfl := Option.some.inj (g1.symm.trans e1)
            have k3 := Nat.eq_of_beq_eq_true k3
            obtain ⟨q1, q2⟩ := rsl_ok hc hy g6
            refine ⟨⟨k5, g', off, cs, rfl, ?_, q1⟩, fun hz => (by cases hz), by simp [AVal.labs, q2]⟩
            intro q hq
            refine ⟨g', off, c, rfl, lentM_foot (hc.feet L _ g' (look_mem hl) g2).2 (look_mem hl) g2 g3, ?_⟩
            rw [← Array.getElem?_toList, g4, ← k3, ← g5, List.append_assoc, List.getElem?_append_right (by omega), List.getElem?_append_left (by omega)]
            congr 1
            omega
          · cases h
        · cases h
      · cases h
    · cases h
  · cases h

theorem coeP_ok {ps : PSh} {α β : AVal} {N : Fz} {ψ : Nat → Value} {u : Value} (h : coeP ps α = some β) (hr : RelV P N ψ α u) : RelV P N ψ β u := by
  unfold coeP at h
  split at h
  · split at h
    · rename_i t s x hh
      simp only [Bool.and_eq_true, beq_iff_eq] at hh
      split at h
      · rename_i y hy
        simp only [Option.some.injEq] at h
        subst h
        obtain ⟨_, cs, rfl, hc⟩ := hr
        exact ⟨hh.1, cs, by simp [mkV, hh.2], coeS_ok hy hc⟩
      · cases h
    · cases h
  · split at h
    · rename_i t s x hh
      split at h
      · rename_i y hy
        simp only [Option.some.injEq] at h
        subst h
        obtain ⟨_, g, off, cs, h1, h2, h3⟩ := hr
        exact ⟨hh, g, off, cs, h1, h2, coeS_ok hy h3⟩
      · cases h
    · cases h
  · cases h

theorem lendL_ok (hc : Core P b M φ ξ H w) : ∀ {l l' : List AVal} {z : Bool} {us : List Value}, lendL H l = some (l', z) → RelVs P M φ l us → RelVs P (lentM M ξ H w) φ0 l' us ∧ (z = false → RelVs P M φ0 l' us)
  | [], l', z, us, h, hr => by
    simp only [lendL, Option.some.injEq, Prod.mk.injEq] at h
    obtain ⟨rfl, rfl⟩ := h
    exact ⟨hr, fun _ => hr⟩
  | α :: l, l', z, us, h, hr => by
    simp only [lendL] at h
    split at h
    · rename_i β z1 r z2 h1 h2
      simp only [Option.some.injEq, Prod.mk.injEq] at h
      obtain ⟨rfl, rfl⟩ := h
      obtain ⟨u, q, rfl, k1, k2⟩ := hr
      obtain ⟨g1, g2, _⟩ := lendA_ok hc h1 k1
      obtain ⟨g3, g4⟩ := lendL_ok hc h2 k2
      exact ⟨⟨u, q, rfl, g1, g3⟩, fun hz => ⟨u, q, rfl, g2 (by cases z1 <;> simp_all), g4 (by cases z2 <;> simp_all)⟩⟩
    · cases h

theorem clo_ok {N : Fz} {f : FuncId} {l' : List AVal} {us : List Value} {s t : Sh} {p : s.ty → Option t.ty} (hp : s.pers = true) (hq : t.pers = true) (h1 : s.fixed = true) (h2 : t.fixed = true) (hr : RelVs P N φ0 l' us) (h0 : Enters P f) (h : ∀ x y, p x = some y → Pure P f (.v s x :: l') (.v t y)) : RelV P N φ0 (.v (.fn s t) p) (.func (.func f) #[] us.toArray) := by
  refine ⟨by simp [Sh.fixed, h1, h2, hp, hq], _, rfl, f, us.toArray, rfl, h0, fun w M' hle ho ca x hx y hy => ?_⟩
  have := (h x y hy).2 w M' (mkV s ca :: us) ho ⟨_, _, rfl, ⟨h1, ca, rfl, hx⟩, relVs_mono hle hr⟩
  have e : (mkV s ca :: us).toArray = #[mkV s ca] ++ us.toArray := by simp
  rw [← e]
  refine this.mono ?_
  rintro e w' ⟨M2, v, rfl, g1, g2, g3, g4, _, cs, rfl, g5⟩
  exact ⟨M2, cs, rfl, g1, g2, g3, g4, g5⟩

theorem argA_ok (hc : Core P b M φ ξ H w) {ps : PSh} {α β : AVal} {z : Bool} {C : List Prop} {u : Value} (h : argA P H ps α = some (β, z, C)) (hC : AllP C) (hr : RelV P M φ α u) : RelV P (lentM M ξ H w) φ0 β u ∧ (z = false → RelV P M φ0 β u) := by
  unfold argA at h
  split at h
  · split at h
    · rename_i l' z' hl
      split at h
      · rename_i hh
        simp only [Bool.and_eq_true] at hh
        simp only [Option.some.injEq, Prod.mk.injEq] at h
        obtain ⟨rfl, rfl, rfl⟩ := h
        obtain ⟨us, rfl, h2⟩ := hr
        obtain ⟨g1, g2⟩ := lendL_ok hc hl h2
        exact ⟨clo_ok hh.1.1.1 hh.1.1.2 hh.1.2 hh.2 g1 hC.1 hC.2.1, fun hz => clo_ok hh.1.1.1 hh.1.1.2 hh.1.2 hh.2 (g2 hz) hC.1 hC.2.1⟩
      · cases h
    · cases h
  · split at h
    · rename_i β' z' hl
      split at h
      · rename_i γ hγ
        simp only [Option.some.injEq, Prod.mk.injEq] at h
        obtain ⟨rfl, rfl, rfl⟩ := h
        obtain ⟨g1, g2, _⟩ := lendA_ok hc hl hr
        exact ⟨coeP_ok hγ g1, fun hz => coeP_ok hγ (g2 hz)⟩
      · cases h
    · cases h
theorem argL_ok (hc : Core P b M φ ξ H w) : ∀ {ps : List PSh} {l l' : List AVal} {z : Bool} {C : List Prop} {us : List Value}, argL P H ps l = some (l', z, C) → AllP C → RelVs P M φ l us → RelVs P (lentM M ξ H w) φ0 l' us ∧ (z = false → RelVs P M φ0 l' us)
  | [], [], l', z, C, us, h, _, hr => by
    simp only [argL, Option.some.injEq, Prod.mk.injEq] at h
    obtain ⟨rfl, rfl, rfl⟩ := h
    exact ⟨hr, fun _ => hr⟩
  | ps :: q, α :: l, l', z, C, us, h, hC, hr => by
    simp only [argL] at h
    split at h
    · rename_i β z1 C1 r z2 C2 h1 h2
      simp only [Option.some.injEq, Prod.mk.injEq] at h
      obtain ⟨rfl, rfl, rfl⟩ := h
      obtain ⟨c1, c2⟩ := AllP.app hC
      obtain ⟨u, r', rfl, k1, k2⟩ := hr
      obtain ⟨g1, g2⟩ := argA_ok hc h1 c1 k1
      obtain ⟨g3, g4⟩ := argL_ok hc h2 c2 k2
      exact ⟨⟨u, r', rfl, g1, g3⟩, fun hz => ⟨u, r', rfl, g2 (by cases z1 <;> simp_all), g4 (by cases z2 <;> simp_all)⟩⟩
    · cases h
  | [], _ :: _, _, _, _, _, h, _, _ => by simp [argL] at h
  | _ :: _, [], _, _, _, _, h, _, _ => by simp [argL] at h

mutual
theorem flatB_ok {N N' : Fz} {ψ : Nat → Value} : ∀ {α : AVal} {u : Value}, α.flatB = true → RelV P N ψ α u → RelV P N' ψ α u
  | .v s x, u, h, hr => by obtain ⟨h1, cs, h2, h3⟩ := hr; exact ⟨h1, cs, h2, rep_flat h h3⟩
  | .tup l, u, h, hr => by obtain ⟨us, h1, h2⟩ := hr; exact ⟨us, h1, flatL_ok h h2⟩
  | .ptr _ _ _, _, h, _ => by simp [AVal.flatB] at h
  | .row _, _, h, _ => by simp [AVal.flatB] at h
  | .sub _ _ _ _, _, h, _ => by simp [AVal.flatB] at h
  | .fp _ _, _, h, _ => by simp [AVal.flatB] at h
  | .clo _ _, _, h, _ => by simp [AVal.flatB] at h
  | .nilp, _, h, _ => by simp [AVal.flatB] at h
  | .undef, _, h, _ => by simp [AVal.flatB] at h
theorem flatL_ok {N N' : Fz} {ψ : Nat → Value} : ∀ {l : List AVal} {us : List Value}, AVal.flatL l = true → RelVs P N ψ l us → RelVs P N' ψ l us
  | [], us, _, hr => hr
  | α :: l, us, h, hr => by
    simp only [AVal.flatL, Bool.and_eq_true] at h
    obtain ⟨u, r, h1, h2, h3⟩ := hr
    exact ⟨u, r, h1, flatB_ok h.1 h2, flatL_ok h.2 h3⟩
end

/-- A call of what only computes, out of what is known. -/
theorem call_pure (hc : Core P b M φ ξ H w) {f : FuncId} {ps : List PSh} {l l' : List AVal} {z : Bool} {C : List Prop} {us : List Value} {β : AVal} (h : argL P H ps l = some (l', z, C)) (hC : AllP C) (hr : RelVs P M φ l us) (hf : Pure P f l' β) (hz : z = true → β.flatB = true) (hlab : β.labs = []) :
    Calls P f us.toArray w fun e w' => ∃ M' v, e = .returned v ∧ Core P b M' φ ξ H w' ∧ M.le M' ∧ RelV P M' φ β v := by
  obtain ⟨g1, g2⟩ := argL_ok hc h hC hr
  have keep : ∀ {w' : World}, Below w.heap.size w w' → ∀ M', M.le M' → (∀ g, g < w.heap.size → M' g = M g) → Over M' w' → Core P b M' φ ξ H w' := by
    intro w' hb M' h1 h2 h3
    have lt : ∀ L it, (L, it) ∈ H → ∀ g, ξ L = some g → g < w.heap.size := fun L it hi g hg => held_lt (hc.items L it hi) g hg
    refine ⟨Fz.le_trans hc.le h1, fun g hg => (h2 g (Nat.lt_of_lt_of_le hg hc.below.size)).trans (hc.same g hg), h3, hc.below.trans ⟨hb.os, hb.tape, hb.output, hb.size, fun k hk _ => hb.block k (Nat.lt_of_lt_of_le hk hc.below.size)⟩, fun L it hi => held_kept h1 (hc.items L it hi) fun g hg => hb.block g (lt L it hi g hg), fun L it g hi hg => ⟨(hc.feet L it g hi hg).1, (h2 g (lt L it hi g hg)).trans (hc.feet L it g hi hg).2⟩, hc.sep, hc.nd, hc.keep⟩
  cases z with
  | false =>
    refine (hf.2 w M us hc.over (g2 rfl)).mono ?_
    rintro e w' ⟨M', v, rfl, h1, h2, h3, h4, h5⟩
    exact ⟨M', v, rfl, keep h1 M' h2 h3 h4, h2, relV_labs (fun L hL => by rw [hlab] at hL; cases hL) h5⟩
  | true =>
    refine (hf.2 w _ us (lentM_over hc.over) g1).mono ?_
    rintro e w' ⟨M', v, rfl, h1, h2, h3, h4, h5⟩
    have lt : ∀ g c, M g = some c → g < w.heap.size := fun g c h => by
      obtain ⟨t, fr, e⟩ := hc.over g c h
      exact (Array.getElem?_eq_some_iff.1 e).1
    let N : Fz := fun g => if g < w.heap.size then M g else M' g
    have n1 : M.le N := fun g c hg => by show (if g < w.heap.size then M g else M' g) = some c; rw [if_pos (lt g c hg)]; exact hg
    have n2 : ∀ g, g < w.heap.size → N g = M g := fun g hg => by show (if g < w.heap.size then M g else M' g) = M g; rw [if_pos hg]
    have n3 : Over N w' := by
      refine ⟨fun g c hg => ?_, hc.over.gl.mono n1⟩
      by_cases hlt : g < w.heap.size
      · rw [n2 g hlt] at hg
        obtain ⟨t, fr, e⟩ := hc.over g c hg
        exact ⟨t, fr, (h1.block g hlt).trans e⟩
      · have : N g = M' g := by show (if g < w.heap.size then M g else M' g) = M' g; rw [if_neg hlt]
        rw [this] at hg
        exact h4 g c hg
    exact ⟨N, v, rfl, keep h1 N n1 n2 n3, n1, relV_labs (fun L hL => by rw [hlab] at hL; cases hL) (flatB_ok (hz rfl) h5)⟩

theorem relVs_app {N : Fz} {ψ : Nat → Value} : ∀ {l m : List AVal} {us vs : List Value}, RelVs P N ψ l us → RelVs P N ψ m vs → RelVs P N ψ (l ++ m) (us ++ vs)
  | [], m, us, vs, h, h2 => by simp only [RelVs] at h; subst h; exact h2
  | α :: l, m, us, vs, ⟨u, r, e, h1, h2⟩, h3 => by subst e; exact ⟨u, r ++ vs, rfl, h1, relVs_app h2 h3⟩

/-- A call of a function value that only computes. -/
theorem call_fn (hc : Core P b M φ ξ H w) {s t : Sh} {p : s.ty → Option t.ty} {x : s.ty} {y : t.ty} {u v : Value} (hr : RelV P M φ (.v (.fn s t) p) u) (hx : RelV P M φ (.v s x) v) (hp : p x = some y) :
    ∃ f cap, u = .func (.func f) #[] cap ∧ Enters P f ∧ Calls P f (#[v] ++ cap) w fun e w' => ∃ M' r, e = .returned r ∧ Core P b M' φ ξ H w' ∧ M.le M' ∧ RelV P M' φ (.v t y) r := by
  obtain ⟨hf, cs, rfl, f, cap, rfl, h0, h1⟩ := hr
  obtain ⟨_, ca, rfl, h2⟩ := hx
  refine ⟨f, cap, rfl, h0, (h1 w M (Fz.le_refl _) hc.over ca x h2 y hp).mono ?_⟩
  simp only [Sh.fixed, Bool.and_eq_true] at hf
  rintro e w' ⟨M', cs, rfl, hb, h2, h3, h4, h5⟩
  have lt : ∀ L it, (L, it) ∈ H → ∀ g, ξ L = some g → g < w.heap.size := fun L it hi g hg => held_lt (hc.items L it hi) g hg
  exact ⟨M', _, rfl, ⟨Fz.le_trans hc.le h2, fun g hg => (h3 g (Nat.lt_of_lt_of_le hg hc.below.size)).trans (hc.same g hg), h4, hc.below.trans ⟨hb.os, hb.tape, hb.output, hb.size, fun k hk _ => hb.block k (Nat.lt_of_lt_of_le hk hc.below.size)⟩, fun L it hi => held_kept h2 (hc.items L it hi) fun g hg => hb.block g (lt L it hi g hg), fun L it g hi hg => ⟨(hc.feet L it g hi hg).1, (h3 g (lt L it hi g hg)).trans (hc.feet L it g hi hg).2⟩, hc.sep, hc.nd, hc.keep⟩, h2, hf.1.2, cs, rfl, h5⟩
end
end Go.Proofs.YtlhbekiplnmolaaDoor
