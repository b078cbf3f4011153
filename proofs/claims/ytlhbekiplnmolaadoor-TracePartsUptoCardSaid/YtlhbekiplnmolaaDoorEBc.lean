/- The machine's side, told once: calls of what writes memory that it is given. -/
import Derived.Test.YtlhbekiplnmolaaDoorEBb
set_option linter.unusedVariables false
set_option linter.unusedSimpArgs false
namespace Go.Proofs.YtlhbekiplnmolaaDoor
open Go.RowKit

/-- What a function makes of memory that it is given: items at its own labels. -/
def Mut (P : Program) (f : FuncId) (n0 : Nat) (l : List AVal) (Hi : AStore) (β : AVal) (Ho : AStore) : Prop :=
  Enters P f ∧ ∀ (b : Base n0) (ξ : Nat → Option Nat) (us : List Value), Core P b b.M b.φ0 ξ Hi b.w → RelVs P b.M b.φ0 l us →
    Calls P f us.toArray b.w fun e w' => ∃ M' φ' ξ' v, e = .returned v ∧ Core P b M' φ' ξ' Ho w' ∧ RelV P M' φ' β v

def idxL : List Nat → Nat → Nat → Option Nat
  | [], _, _ => none
  | x :: r, L, i => if Nat.beq x L then some i else idxL r L (i + 1)
def tauL (sg : List Nat) (K L : Nat) : Nat := match sg[L]? with
  | some l => l
  | none => K + L
def AItem.persB : AItem → Bool
  | .var _ s _ => s.pers
  | .row _ s _ => s.pers
  | .mp _ _ v _ => v.pers
/-- Told without frozen memory, but for labels at plain places. -/
def Sh.flatR : Sh → Bool
  | .ref => true
  | .oref => true
  | .prod a b => a.flatR && b.flatR
  | .st s => s.flatR
  | s => s.flat
def AItem.flatB : AItem → Bool
  | .var _ s _ => s.flatR
  | .row _ s _ => s.flat
  | .mp _ k v _ => k.flat && v.flat
/-- Labels at plain places alone. -/
def Sh.rn : Sh → Bool
  | .ref => true
  | .oref => true
  | .prod a b => a.rn && b.rn
  | .st s => s.rn
  | s => s.pers
def AItem.rnB : AItem → Bool
  | .var _ s _ => s.rn
  | .row _ s _ => s.pers
  | .mp _ _ v _ => match v with
    | .ref => true
    | v => v.pers
/-- Labels renamed. -/
def renT (f : Nat → Nat) : (s : Sh) → s.ty → s.ty
  | .ref, x => f x
  | .oref, x => f x
  | .prod a b, x => if (Sh.prod a b).pers then x else (renT f a x.1, renT f b x.2)
  | .st s, x => renT f s x
  | _, x => x
def renI (f : Nat → Nat) : AItem → AItem
  | .var T s x => .var T s (renT f s x)
  | .mp T k v x => .mp T k v (if v.pers then x else x.map fun y => (y.1, renT f v y.2))
  | it => it
def inA (sg : List Nat) : AVal → Option AVal
  | .row L => match idxL sg L 0 with
    | some i => some (.row i)
    | none => none
  | .ptr L p off => match idxL sg L 0 with
    | some i => some (.ptr i p off)
    | none => none
  | _ => none
mutual
def outA (sg : List Nat) (K : Nat) : AVal → AVal
  | .row L => .row (tauL sg K L)
  | .sub L sz lo n => .sub (tauL sg K L) sz lo n
  | .ptr L p off => .ptr (tauL sg K L) p off
  | .tup l => .tup (outL sg K l)
  | α => α
def outL (sg : List Nat) (K : Nat) : List AVal → List AVal
  | [] => []
  | α :: l => outA sg K α :: outL sg K l
end
mutual
def AVal.okM (z : Bool) : AVal → Bool
  | .v s _ => s.pers && (!z || s.flat)
  | .fp s _ => s.pers && !z
  | .row _ => true
  | .sub _ _ _ _ => true
  | .ptr _ _ _ => true
  | .nilp => true
  | .undef => true
  | .tup l => AVal.okML z l
  | .clo _ _ => false
def AVal.okML (z : Bool) : List AVal → Bool
  | [] => true
  | α :: l => α.okM z && AVal.okML z l
end
def idxD (sg : List Nat) (L : Nat) : Nat := match idxL sg L 0 with
  | some i => i
  | none => 0
def inLs (sg : List Nat) : List Nat → Bool
  | [] => true
  | L :: l => (match idxL sg L 0 with | some _ => true | none => false) && inLs sg l
def pickM (sg : List Nat) : List Nat → Nat → AStore → Option AStore
  | [], _, _ => some []
  | x :: r, i, H => match look H x, pickM sg r (i + 1) H with
    | some it, some q => if it.rnB && inLs sg it.labs then some ((i, renI (idxD sg) it) :: q) else none
    | _, _ => none
def remLs (sg : List Nat) : AStore → AStore
  | [] => []
  | x :: H => match idxL sg x.1 0 with
    | some _ => remLs sg H
    | none => x :: remLs sg H
def outH (sg : List Nat) (K : Nat) : AStore → AStore
  | [] => []
  | x :: H => (tauL sg K x.1, renI (tauL sg K) x.2) :: outH sg K H
def argM (P : Program) (sg : List Nat) (H : AStore) (ps : PSh) (α : AVal) : Option (AVal × Bool × List Prop) := match inA sg α with
  | some β => some (β, false, [])
  | none => match argA P H ps α with
    | some (β, z, C) => if β.labs.isEmpty then some (β, z, C) else none
    | none => none
def argML (P : Program) (sg : List Nat) (H : AStore) : List PSh → List AVal → Option (List AVal × Bool × List Prop)
  | [], [] => some ([], false, [])
  | ps :: r, α :: l => match argM P sg H ps α, argML P sg H r l with
    | some (β, z, C), some (q, z', C') => some (β :: q, z || z', C ++ C')
    | _, _ => none
  | _, _ => none
def allB (p : AItem → Bool) : AStore → Bool
  | [] => true
  | x :: H => p x.2 && allB p H
def ltB (K : Nat) : List Nat → Bool
  | [] => true
  | x :: l => Nat.blt x K && ltB K l
def nodB : List Nat → Bool
  | [] => true
  | x :: l => !l.any (Nat.beq x) && nodB l
/-- A call that writes. -/
def callM (P : Program) (n0 : Nat) (ρ : AEnv) (H : AStore) (l : List AVal) (ps : List PSh) (β : AVal) (sg : List Nat) (K : Nat) (Ho : AStore) : AVal → Option (AVal × AStore × List Prop)
  | .clo f caps => match argML P sg (remLs sg H) ps (l ++ caps), pickM sg sg 0 H with
    | some (l', z, C), some Hi =>
      if nodB sg && β.okM z && allB AItem.rnB Ho && (!z || allB AItem.flatB Ho) && nodB ((remLs sg H ++ outH sg K Ho).map Prod.fst) && Nat.ble n0 K && ltB K (envLabs ρ ++ storeLabs H) then
        some (outA sg K β, remLs sg H ++ outH sg K Ho, C ++ [Mut P f sg.length l' Hi β Ho])
      else none
    | _, _ => none
  | _ => none

theorem idxL_some : ∀ {sg : List Nat} {L j i : Nat}, idxL sg L j = some i → j ≤ i ∧ sg[i - j]? = some L
  | [], L, j, i, h => by simp [idxL] at h
  | x :: r, L, j, i, h => by
    simp only [idxL] at h
    split at h
    · rename_i e
      have e := Nat.eq_of_beq_eq_true e
      simp only [Option.some.injEq] at h
      subst e h
      simp
    · obtain ⟨h1, h2⟩ := idxL_some h
      refine ⟨by omega, ?_⟩
      rw [show i - j = (i - (j + 1)) + 1 by omega, List.getElem?_cons_succ]
      exact h2
theorem idxL_none : ∀ {sg : List Nat} {L j : Nat}, idxL sg L j = none → L ∉ sg
  | [], L, j, _ => by simp
  | x :: r, L, j, h => by
    simp only [idxL] at h
    split at h
    · cases h
    · rename_i e
      intro hm
      rcases List.mem_cons.1 hm with rfl | hm
      · exact e (by simp)
      · exact idxL_none h hm
theorem nodB_ok : ∀ {l : List Nat}, nodB l = true → l.Nodup
  | [], _ => List.nodup_nil
  | x :: l, h => by
    simp only [nodB, Bool.and_eq_true, Bool.not_eq_true'] at h
    rw [List.nodup_cons]
    refine ⟨fun hx => ?_, nodB_ok h.2⟩
    have := h.1
    rw [List.any_eq_false] at this
    exact this x hx (by simp)
theorem idxL_get {sg : List Nat} (hn : sg.Nodup) {L i : Nat} (h : sg[i]? = some L) : idxL sg L 0 = some i := by
  cases hx : idxL sg L 0 with
  | none => exact absurd (List.mem_of_getElem? h) (idxL_none hx)
  | some j =>
    obtain ⟨_, h1⟩ := idxL_some hx
    rw [Nat.sub_zero] at h1
    obtain ⟨l1, e1⟩ := List.getElem?_eq_some_iff.1 h
    obtain ⟨l2, e2⟩ := List.getElem?_eq_some_iff.1 h1
    have := (List.getElem_inj (h₀ := l2) (h₁ := l1) hn).1 (e2.trans e1.symm)
    rw [this]
theorem inLs_ok {sg : List Nat} : ∀ {l : List Nat}, inLs sg l = true → ∀ L ∈ l, ∃ i, idxL sg L 0 = some i
  | [], _, L, hL => by cases hL
  | x :: l, h, L, hL => by
    simp only [inLs, Bool.and_eq_true] at h
    rcases List.mem_cons.1 hL with rfl | hL
    · have := h.1
      split at this
      · rename_i i hi; exact ⟨i, hi⟩
      · cases this
    · exact inLs_ok h.2 L hL
theorem rep_ren {P : Program} {φ φ' : Nat → Value} {M : Fz} {f : Nat → Nat} : ∀ {s : Sh} {cs : List Value} {x : s.ty}, s.rn = true → (∀ L ∈ s.labs x, φ' (f L) = φ L) → RepC P φ s M cs x → RepC P φ' s M cs (renT f s x) := by
  intro s
  induction s with
  | prod a b iha ihb =>
    intro cs x hr hp h
    cases hs : (Sh.prod a b).pers with
    | true => simp only [renT, hs, if_true]; exact rep_pers hs h
    | false =>
      simp only [Sh.rn, Bool.and_eq_true] at hr
      obtain ⟨c1, c2, rfl, h1, h2⟩ := h
      simp only [renT, hs]
      exact ⟨c1, c2, rfl, iha hr.1 (fun L hL => hp L (List.mem_append_left _ hL)) h1, ihb hr.2 (fun L hL => hp L (List.mem_append_right _ hL)) h2⟩
  | st s ih => intro cs x hr hp h; exact ih hr hp h
  | ref =>
    intro cs x _ hp h
    have := hp x (List.mem_singleton.2 rfl)
    simp only [RepC, renT] at h ⊢
    rw [this]; exact h
  | oref =>
    intro cs x _ hp h
    have := hp x (List.mem_singleton.2 rfl)
    simp only [RepC, renT] at h ⊢
    rw [this]; exact h
  | arr n s ih => intro cs x hr _ h; exact rep_pers (s := .arr n s) hr h
  | lst s ih => intro cs x hr _ h; exact rep_pers (s := .lst s) hr h
  | sl s ih => intro cs x hr _ h; exact rep_pers (s := .sl s) hr h
  | fn a b iha ihb => intro cs x hr _ h; exact rep_pers (s := .fn a b) hr h
  | _ => intro cs x _ _ h; exact h
theorem rn_pers {s : Sh} (h : s.pers = true) : s.rn = true := by
  induction s with
  | prod a b iha ihb =>
    simp only [Sh.pers, Bool.and_eq_true] at h
    simp [Sh.rn, iha h.1, ihb h.2]
  | st s ih => exact ih h
  | ref => rfl
  | oref => rfl
  | _ => exact h
theorem labs_pers' {s : Sh} {x : s.ty} (h : s.pers = true) : (if s.pers then ([] : List Nat) else s.labs x) = [] := if_pos h
theorem held_ren {P : Program} {φ φ' : Nat → Value} {M : Fz} {w : World} {u : Value} {o : Option Nat} {f : Nat → Nat} {it : AItem} (hr : it.rnB = true) (hp : ∀ L ∈ it.labs, φ' (f L) = φ L) (h : Held P M φ w u o it) : Held P M φ' w u o (renI f it) := by
  cases it with
  | var T s x =>
    obtain ⟨h1, g, c, h2, h3, h4, h5⟩ := h
    refine ⟨h1, g, c, h2, h3, h4, rep_ren hr (fun L hL => hp L ?_) h5⟩
    cases hs : s.pers with
    | true => rw [labs_pers hs] at hL; cases hL
    | false => simpa [AItem.labs, hs] using hL
  | mp T k v x =>
    obtain ⟨h1, g, es, h2, h3, h4, h5⟩ := h
    refine ⟨h1, g, es, h2, h3, h4, ?_⟩
    cases hps : v.pers with
    | true => simp only [if_true]; exact h5.mono (fun _ _ => rep_pers h1.2.2.1) (fun _ _ => rep_pers hps)
    | false =>
    simp only [Bool.false_eq_true, if_false]
    have hv : ∀ y ∈ x, ∀ c, RepC P φ v M c y.2 → RepC P φ' v M c (renT f v y.2) := fun y hy c hc => by
      refine rep_ren ?_ (fun L hL => hp L ?_) hc
      · rcases h1.2.2.2 with h | h
        · exact rn_pers h
        · rw [h]; rfl
      · cases hs : v.pers with
        | true => rw [labs_pers hs] at hL; cases hL
        | false => simp only [AItem.labs, hs]; exact List.mem_flatMap.2 ⟨y, hy, hL⟩
    clear hp h2 h3 h4 hr
    revert hv h5
    generalize 0 = n
    intro h5 hv
    have go : ∀ (es : List MapEntry) (ys : List (k.ty × v.ty)) (n : Nat), (∀ y ∈ ys, ∀ c, RepC P φ v M c y.2 → RepC P φ' v M c (renT f v y.2)) → RepM P φ M k v es ys n → RepM P φ' M k v es (ys.map fun y => (y.1, renT f v y.2)) n := by
      intro es
      induction es with
      | nil => intro ys n _ h; cases ys with
        | nil => trivial
        | cons _ _ => exact h.elim
      | cons e es ih => intro ys n hv h; cases ys with
        | nil => exact h.elim
        | cons y ys =>
          obtain ⟨⟨ck, cv, g1, g2, g3, g4, g5⟩, g6⟩ := h
          exact ⟨⟨ck, cv, g1, rep_pers h1.2.2.1 g2, g3, hv y (List.mem_cons_self ..) _ g4, g5⟩, ih ys (n + 1) (fun y hy => hv y (List.mem_cons_of_mem _ hy)) g6⟩
    exact go _ _ _ hv h5
  | row e s x =>
    have e1 : (AItem.row e s x).labs = [] := if_pos hr
    exact held_labs (it := .row e s x) (fun L hL => by rw [e1] at hL; cases hL) h
theorem pickM_ok {sg0 : List Nat} : ∀ {sg : List Nat} {j : Nat} {H Hi : AStore}, pickM sg0 sg j H = some Hi → (∀ i it, (i, it) ∈ Hi → j ≤ i ∧ i < j + sg.length ∧ ∃ L it0, sg[i - j]? = some L ∧ (L, it0) ∈ H ∧ it0.rnB = true ∧ inLs sg0 it0.labs = true ∧ it = renI (idxD sg0) it0) ∧ (Hi.map Prod.fst).Nodup
  | [], j, H, Hi, h => by simp only [pickM, Option.some.injEq] at h; subst h; exact ⟨fun i it hi => (by cases hi), by simp⟩
  | x :: r, j, H, Hi, h => by
    simp only [pickM] at h
    split at h
    · rename_i it q h1 h2
      split at h
      · rename_i hp
        simp only [Option.some.injEq] at h
        subst h
        obtain ⟨k1, k2⟩ := pickM_ok h2
        refine ⟨fun i it' hi => ?_, ?_⟩
        · rcases List.mem_cons.1 hi with e | hi
          · simp only [Prod.mk.injEq] at e
            obtain ⟨rfl, rfl⟩ := e
            simp only [Bool.and_eq_true] at hp
            exact ⟨Nat.le_refl _, (by simp only [List.length_cons]; omega), x, _, (by rw [Nat.sub_self]; rfl), look_mem h1, hp.1, hp.2, rfl⟩
          · obtain ⟨g1, g2, L, it0, g3, g4, g5⟩ := k1 i it' hi
            refine ⟨by omega, (by simp only [List.length_cons]; omega), L, it0, ?_, g4, g5⟩
            rw [show i - j = (i - (j + 1)) + 1 by omega, List.getElem?_cons_succ]
            exact g3
        · rw [List.map_cons, List.nodup_cons]
          refine ⟨fun hm => ?_, k2⟩
          obtain ⟨y, hy, e⟩ := List.mem_map.1 hm
          have := (k1 y.1 y.2 hy).1
          have e : y.1 = j := e
          omega
      · cases h
    · cases h
theorem remLs_mem {sg : List Nat} : ∀ {H : AStore} {x : Nat × AItem}, x ∈ remLs sg H → x ∈ H ∧ x.1 ∉ sg
  | [], x, h => by cases h
  | y :: H, x, h => by
    simp only [remLs] at h
    split at h
    · obtain ⟨h1, h2⟩ := remLs_mem h; exact ⟨List.mem_cons_of_mem _ h1, h2⟩
    · rename_i e
      rcases List.mem_cons.1 h with rfl | h
      · exact ⟨List.mem_cons_self .., idxL_none e⟩
      · obtain ⟨h1, h2⟩ := remLs_mem h; exact ⟨List.mem_cons_of_mem _ h1, h2⟩
theorem outH_mem {sg : List Nat} {K : Nat} : ∀ {H : AStore} {x : Nat × AItem}, x ∈ outH sg K H → ∃ L it, (L, it) ∈ H ∧ x.1 = tauL sg K L ∧ x.2 = renI (tauL sg K) it
  | [], x, h => by cases h
  | y :: H, x, h => by
    simp only [outH] at h
    rcases List.mem_cons.1 h with rfl | h
    · exact ⟨y.1, y.2, List.mem_cons_self .., rfl, rfl⟩
    · obtain ⟨L, it, h1, h2⟩ := outH_mem h; exact ⟨L, it, List.mem_cons_of_mem _ h1, h2⟩
theorem allB_mem {p : AItem → Bool} : ∀ {H : AStore}, allB p H = true → ∀ x ∈ H, p x.2 = true
  | [], _, x, h => by cases h
  | y :: H, h, x, hx => by
    simp only [allB, Bool.and_eq_true] at h
    rcases List.mem_cons.1 hx with rfl | hx
    · exact h.1
    · exact allB_mem h.2 x hx
theorem ltB_mem {K : Nat} : ∀ {l : List Nat}, ltB K l = true → ∀ x ∈ l, x < K
  | [], _, x, h => by cases h
  | y :: l, h, x, hx => by
    simp only [ltB, Bool.and_eq_true, Nat.blt_eq] at h
    rcases List.mem_cons.1 hx with rfl | hx
    · exact h.1
    · exact ltB_mem h.2 x hx
theorem persB_labs {it : AItem} (h : it.persB = true) : it.labs = [] := by
  cases it with
  | var T s x => exact if_pos h
  | row e s x => exact if_pos h
  | mp T k v x => exact if_pos h
theorem rep_flatR {P : Program} {φ : Nat → Value} : ∀ {s : Sh} {M M' : Fz} {cs : List Value} {x : s.ty}, s.flatR = true → RepC P φ s M cs x → RepC P φ s M' cs x := by
  intro s
  induction s with
  | prod a b iha ihb =>
    intro M M' cs x hp h
    simp only [Sh.flatR, Bool.and_eq_true] at hp
    obtain ⟨c1, c2, rfl, h1, h2⟩ := h; exact ⟨c1, c2, rfl, iha hp.1 h1, ihb hp.2 h2⟩
  | st s ih => intro M M' cs x hp h; exact ih hp h
  | ref => intro M M' cs x _ h; exact h
  | oref => intro M M' cs x _ h; exact h
  | arr n s ih => intro M M' cs x hp h; exact rep_flat (s := .arr n s) hp h
  | lst s ih => intro M M' cs x hp h; exact rep_flat (s := .lst s) hp h
  | sl s ih => intro M M' cs x hp h; exact rep_flat (s := .sl s) hp h
  | fn a b iha ihb => intro M M' cs x hp h; exact rep_flat (s := .fn a b) hp h
  | _ => intro M M' cs x _ h; exact h
theorem held_flat {P : Program} {M N : Fz} {φ : Nat → Value} {w : World} {u : Value} {o : Option Nat} {it : AItem} (hf : it.flatB = true) (h : Held P M φ w u o it) : Held P N φ w u o it := by
  cases it with
  | mp T k v x =>
    have hf : k.flat = true ∧ v.flat = true := by simpa [AItem.flatB] using hf
    obtain ⟨h1, g, es, h2, h3, h4, h5⟩ := h
    exact ⟨h1, g, es, h2, h3, h4, h5.mono (fun _ _ => rep_flat hf.1) (fun _ _ => rep_flat hf.2)⟩
  | var T s x =>
    obtain ⟨h1, g, c, h2, h3, h4, h5⟩ := h
    exact ⟨h1, g, c, h2, h3, h4, rep_flatR hf h5⟩
  | row e s x =>
    obtain ⟨h1, A, cap, h2, h3⟩ := h
    refine ⟨h1, A, cap, h2, ?_⟩
    rcases h3 with h3 | ⟨g, c, k1, k2, k3, k4, k5, k6, k7⟩
    · exact .inl h3
    · exact .inr ⟨g, c, k1, k2, k3, k4, k5, k6, RepL.mono (fun c y hc => rep_flat (s := s) hf hc) k7⟩

section
variable {P : Program} {n0 : Nat} {b : Base n0} {M : Fz} {φ : Nat → Value} {ξ : Nat → Option Nat} {H : AStore} {w : World} {ρ : AEnv}

theorem inA_ok {sg : List Nat} {α β : AVal} {N : Fz} {u : Value} (h : inA sg α = some β) (hr : RelV P M φ α u) : RelV P N (fun i => φ (sg.getD i 0)) β u := by
  unfold inA at h
  split at h
  · split at h
    · rename_i i hi
      simp only [Option.some.injEq] at h
      subst h
      obtain ⟨_, h1⟩ := idxL_some hi
      rw [Nat.sub_zero] at h1
      obtain ⟨h2, h3⟩ := hr
      exact ⟨by rw [h2]; simp [List.getD, h1], h3⟩
    · cases h
  · split at h
    · rename_i i hi
      simp only [Option.some.injEq] at h
      subst h
      obtain ⟨_, h1⟩ := idxL_some hi
      rw [Nat.sub_zero] at h1
      obtain ⟨g, h2, h3⟩ := hr
      exact ⟨g, by simp only [List.getD, h1, Option.getD_some]; exact h2, h3⟩
    · cases h
  · cases h

mutual
theorem outA_ok {sg : List Nat} {K : Nat} {z : Bool} {M' N : Fz} {φ' φ2 : Nat → Value} (hN : z = false → N = M') (hφ : ∀ L, φ2 (tauL sg K L) = φ' L) : ∀ {β : AVal} {v : Value}, β.okM z = true → RelV P M' φ' β v → RelV P N φ2 (outA sg K β) v
  | .v s x, v, h, hr => by
    simp only [AVal.okM, Bool.and_eq_true, Bool.or_eq_true, Bool.not_eq_true'] at h
    obtain ⟨h1, cs, h2, h3⟩ := hr
    refine ⟨h1, cs, h2, rep_pers (φ := φ') h.1 ?_⟩
    rcases h.2 with k | k
    · rw [hN k]; exact h3
    · exact rep_flat k h3
  | .fp s x, v, h, hr => by
    simp only [AVal.okM, Bool.and_eq_true, Bool.not_eq_true'] at h
    obtain ⟨h1, g, off, cs, h2, h3, h4⟩ := hr
    rw [hN h.2]
    exact ⟨h1, g, off, cs, h2, h3, rep_pers h.1 h4⟩
  | .row L, v, _, hr => by
    obtain ⟨h1, h2⟩ := hr
    exact ⟨by rw [h1, hφ], h2⟩
  | .sub L sz lo n, v, _, hr => by
    obtain ⟨A, m, c, h1, h2⟩ := hr
    exact ⟨A, m, c, by rw [hφ]; exact h1, h2⟩
  | .ptr L p off, v, _, hr => by
    obtain ⟨g, h1, h2⟩ := hr
    exact ⟨g, by rw [hφ]; exact h1, h2⟩
  | .nilp, v, _, hr => hr
  | .undef, v, _, hr => hr
  | .tup l, v, h, hr => by
    obtain ⟨us, h1, h2⟩ := hr
    exact ⟨us, h1, outL_ok hN hφ h h2⟩
  | .clo _ _, v, h, _ => by simp [AVal.okM] at h
theorem outL_ok {sg : List Nat} {K : Nat} {z : Bool} {M' N : Fz} {φ' φ2 : Nat → Value} (hN : z = false → N = M') (hφ : ∀ L, φ2 (tauL sg K L) = φ' L) : ∀ {l : List AVal} {us : List Value}, AVal.okML z l = true → RelVs P M' φ' l us → RelVs P N φ2 (outL sg K l) us
  | [], us, _, hr => hr
  | α :: l, us, h, hr => by
    simp only [AVal.okML, Bool.and_eq_true] at h
    obtain ⟨u, r, h1, h2, h3⟩ := hr
    exact ⟨u, r, h1, outA_ok hN hφ h.1 h2, outL_ok hN hφ h.2 h3⟩
end

theorem argML_ok {sg : List Nat} {ψ : Nat → Value} (hψ : ψ = fun i => φ (sg.getD i 0)) {Hr : AStore} (hc : Core P b M φ ξ Hr w) : ∀ {ps : List PSh} {l l' : List AVal} {z : Bool} {C : List Prop} {us : List Value}, argML P sg Hr ps l = some (l', z, C) → AllP C → RelVs P M φ l us → RelVs P (lentM M ξ Hr w) ψ l' us ∧ (z = false → RelVs P M ψ l' us)
  | [], [], l', z, C, us, h, _, hr => by
    simp only [argML, Option.some.injEq, Prod.mk.injEq] at h
    obtain ⟨rfl, rfl, rfl⟩ := h
    exact ⟨hr, fun _ => hr⟩
  | ps :: q, α :: l, l', z, C, us, h, hC, hr => by
    simp only [argML] at h
    split at h
    · rename_i β z1 C1 r z2 C2 h1 h2
      simp only [Option.some.injEq, Prod.mk.injEq] at h
      obtain ⟨rfl, rfl, rfl⟩ := h
      obtain ⟨c1, c2⟩ := AllP.app hC
      obtain ⟨u, r', rfl, k1, k2⟩ := hr
      obtain ⟨g3, g4⟩ := argML_ok hψ hc h2 c2 k2
      have : RelV P (lentM M ξ Hr w) ψ β u ∧ (z1 = false → RelV P M ψ β u) := by
        unfold argM at h1
        split at h1
        · rename_i γ hγ
          simp only [Option.some.injEq, Prod.mk.injEq] at h1
          obtain ⟨rfl, rfl, rfl⟩ := h1
          subst hψ
          exact ⟨inA_ok hγ k1, fun _ => inA_ok hγ k1⟩
        · split at h1
          · rename_i ha
            split at h1
            · rename_i hl
              rw [List.isEmpty_iff] at hl
              simp only [Option.some.injEq, Prod.mk.injEq] at h1
              obtain ⟨rfl, rfl, rfl⟩ := h1
              obtain ⟨g1, g2⟩ := argA_ok hc ha c1 k1
              exact ⟨relV_labs (fun L hL => by rw [hl] at hL; cases hL) g1, fun hz => relV_labs (fun L hL => by rw [hl] at hL; cases hL) (g2 hz)⟩
            · cases h1
          · cases h1
      exact ⟨⟨u, r', rfl, this.1, g3⟩, fun hz => ⟨u, r', rfl, this.2 (by cases z1 <;> simp_all), g4 (by cases z2 <;> simp_all)⟩⟩
    · cases h
  | [], _ :: _, _, _, _, _, h, _, _ => by simp [argML] at h
  | _ :: _, [], _, _, _, _, h, _, _ => by simp [argML] at h

theorem call_mut (hc : Core P b M φ ξ H w) {f : FuncId} {ps : List PSh} {l l' : List AVal} {z : Bool} {C : List Prop} {us : List Value} {β : AVal} {sg : List Nat} {K : Nat} {Hi Ho : AStore} (h : argML P sg (remLs sg H) ps l = some (l', z, C)) (hC : AllP C) (hi : pickM sg sg 0 H = some Hi) (hr : RelVs P M φ l us) (hf : Mut P f sg.length l' Hi β Ho)
    (hsg : sg.Nodup) (hβ : β.okM z = true) (hp : allB AItem.rnB Ho = true) (hz : z = true → allB AItem.flatB Ho = true) (hnd : ((remLs sg H ++ outH sg K Ho).map Prod.fst).Nodup) (hK : n0 ≤ K) (hlt : ∀ L ∈ storeLabs H, L < K) :
    Calls P f us.toArray w fun e w' => ∃ M' φ' ξ' v, e = .returned v ∧ Core P b M' φ' ξ' (remLs sg H ++ outH sg K Ho) w' ∧ M.le M' ∧ (∀ L, L < K → φ' L = φ L) ∧ RelV P M' φ' (outA sg K β) v := by
  obtain ⟨p1, p2⟩ := pickM_ok hi
  have hsub : (remLs sg H).Sublist H := by
    clear hnd h hi p1 p2 hlt hc
    induction H with
    | nil => exact List.Sublist.slnil
    | cons y H ih =>
      simp only [remLs]
      split
      · exact .cons _ ih
      · exact .cons_cons _ ih
  have hcr := hc.sub hsub
  obtain ⟨g1, g2⟩ := argML_ok (ψ := fun i => φ (sg.getD i 0)) rfl hcr h hC hr
  have ltM : ∀ g c, M g = some c → g < w.heap.size := fun g c h => by
    obtain ⟨t, fr, e⟩ := hc.over g c h
    exact (Array.getElem?_eq_some_iff.1 e).1
  have foot : ∀ L it, (L, it) ∈ H → ∀ g, ξ L = some g → g < w.heap.size := fun L it hi g hg => held_lt (hc.items L it hi) g hg
  -- the callee's beginning, over a frozen memory M1
  have begin : ∀ M1 : Fz, M.le M1 → Over M1 w → (∀ L it, (L, it) ∈ H → L ∈ sg → ∀ g, ξ L = some g → M1 g = none) → ∀ ok : Over M1 w, Core P (⟨w, M1, sg.filterMap ξ, fun i => φ (sg.getD i 0), ok⟩ : Base sg.length) M1 (fun i => φ (sg.getD i 0)) (fun i => ξ (sg.getD i 0)) Hi w := by
    intro M1 m1 m2 m3 ok
    have at' : ∀ i it, (i, it) ∈ Hi → ∃ L it0, sg[i]? = some L ∧ sg.getD i 0 = L ∧ L ∈ sg ∧ (L, it0) ∈ H ∧ it0.rnB = true ∧ inLs sg it0.labs = true ∧ it = renI (idxD sg) it0 := by
      intro i it hi
      obtain ⟨_, _, L, it0, q1, q2, q3⟩ := p1 i it hi
      rw [Nat.sub_zero] at q1
      exact ⟨L, it0, q1, by simp [List.getD, q1], List.mem_of_getElem? q1, q2, q3⟩
    refine ⟨Fz.le_refl _, fun _ _ => rfl, ok, BelowX.refl _ _ _, fun i it hi => ?_, fun i it g hi hg => ?_, fun i j it it' g hi hj hg hg' => ?_, p2, fun _ _ => rfl⟩
    · obtain ⟨L, it0, _, e, _, q2, q3, q4, rfl⟩ := at' i it hi
      show Held P M1 (fun i => φ (sg.getD i 0)) w (φ (sg.getD i 0)) (ξ (sg.getD i 0)) _
      rw [e]
      refine held_ren q3 (fun l hl => ?_) (held_kept m1 (hc.items L it0 q2) fun _ _ => rfl)
      obtain ⟨j, hj⟩ := inLs_ok q4 l hl
      have := (idxL_some hj).2
      rw [Nat.sub_zero] at this
      show φ (sg.getD (idxD sg l) 0) = φ l
      simp [idxD, hj, List.getD, this]
    · obtain ⟨L, it0, _, e, q0, q2, _⟩ := at' i it hi
      have hg : ξ (sg.getD i 0) = some g := hg
      rw [e] at hg
      exact ⟨.inr (List.mem_filterMap.2 ⟨L, q0, hg⟩), m3 L it0 q2 q0 g hg⟩
    · obtain ⟨L, it0, q1, e, _, q2, _⟩ := at' i it hi
      obtain ⟨L', it1, q1', e', _, q2', _⟩ := at' j it' hj
      have hg : ξ (sg.getD i 0) = some g := hg
      have hg' : ξ (sg.getD j 0) = some g := hg'
      rw [e] at hg
      rw [e'] at hg'
      have := hc.sep L L' it0 it1 g q2 q2' hg hg'
      subst this
      have a1 := idxL_get hsg q1
      have a2 := idxL_get hsg q1'
      exact Option.some.inj (a1.symm.trans a2)
  -- what comes back, over a frozen memory N
  have back : ∀ (M1 M' N : Fz) (ok : Over M1 w) (φ' : Nat → Value) (ξ' : Nat → Option Nat) (w' : World) (v : Value), Core P (⟨w, M1, sg.filterMap ξ, fun i => φ (sg.getD i 0), ok⟩ : Base sg.length) M' φ' ξ' Ho w' → RelV P M' φ' β v →
      M.le N → (∀ g, g < w.heap.size → N g = M g) → Over N w' → (z = false → N = M') → (∀ g, w.heap.size ≤ g → N g = M' g) → ∃ M' φ' ξ' v', Ending.returned v = .returned v' ∧ Core P b M' φ' ξ' (remLs sg H ++ outH sg K Ho) w' ∧ M.le M' ∧ (∀ L, L < K → φ' L = φ L) ∧ RelV P M' φ' (outA sg K β) v' := by
    intro M1 M' N ok φ' ξ' w' v c2 hv n1 n2 n3 n4 n5
    let φ2 : Nat → Value := fun l => if K ≤ l then φ' (l - K) else φ l
    let ξ2 : Nat → Option Nat := fun l => if K ≤ l then ξ' (l - K) else match idxL sg l 0 with
      | some i => ξ' i
      | none => ξ l
    have sgK : ∀ {i L}, sg[i]? = some L → (i, L) ∈ (List.range sg.length).zip sg → True := fun _ _ => trivial
    have inH : ∀ L ∈ sg, ∃ it, (L, it) ∈ H := by
      clear begin c2 hf g1 g2 h hnd hcr hsub hsg p1 p2 sgK φ2 ξ2
      have : ∀ (r : List Nat) (j : Nat) (Hi : AStore), pickM sg r j H = some Hi → ∀ L ∈ r, ∃ it, (L, it) ∈ H := by
        intro r
        induction r with
        | nil => intro _ _ _ L hL; cases hL
        | cons x r ih =>
          intro j Hi h L hL
          simp only [pickM] at h
          split at h
          · rename_i it q h1 h2
            rcases List.mem_cons.1 hL with rfl | hL
            · exact ⟨it, look_mem h1⟩
            · exact ih _ _ h2 L hL
          · cases h
      exact this sg 0 Hi hi
    have sgLt : ∀ L ∈ sg, L < K := fun L hL => by
      obtain ⟨it, hm⟩ := inH L hL
      exact hlt L (mem_labs hm).1
    have lo : ∀ L, L < K → φ2 L = φ L := fun L hL => by show (if K ≤ L then _ else _) = _; rw [if_neg (by omega)]
    have hφ : ∀ L, φ2 (tauL sg K L) = φ' L := by
      intro L
      unfold tauL
      cases hs : sg[L]? with
      | some l =>
        have hl := sgLt l (List.mem_of_getElem? hs)
        rw [show (match some l with | some l => l | none => K + L) = l from rfl, lo l hl]
        have hL : L < sg.length := (List.getElem?_eq_some_iff.1 hs).1
        have := c2.keep L hL
        rw [this]
        show φ l = φ (sg.getD L 0)
        simp [List.getD, hs]
      | none =>
        show (if K ≤ K + L then φ' (K + L - K) else _) = _
        rw [if_pos (Nat.le_add_right _ _), Nat.add_sub_cancel_left]
    have hξ : ∀ L, ξ2 (tauL sg K L) = ξ' L := by
      intro L
      unfold tauL
      cases hs : sg[L]? with
      | some l =>
        have hl := sgLt l (List.mem_of_getElem? hs)
        show (if K ≤ l then _ else _) = _
        rw [if_neg (by omega), idxL_get hsg hs]
      | none =>
        show (if K ≤ K + L then ξ' (K + L - K) else _) = _
        rw [if_pos (Nat.le_add_right _ _), Nat.add_sub_cancel_left]
    have rest : ∀ L it, (L, it) ∈ remLs sg H → (L, it) ∈ H ∧ L ∉ sg ∧ L < K ∧ ξ2 L = ξ L := by
      intro L it hi
      obtain ⟨q1, q2⟩ := remLs_mem hi
      have hl := hlt L (mem_labs q1).1
      refine ⟨q1, q2, hl, ?_⟩
      show (if K ≤ L then _ else _) = _
      rw [if_neg (by omega)]
      cases hx : idxL sg L 0 with
      | none => rfl
      | some i => exact absurd (List.mem_of_getElem? (idxL_some hx).2) q2
    have feetE : ∀ g, g ∈ sg.filterMap ξ → ∃ L it, L ∈ sg ∧ (L, it) ∈ H ∧ ξ L = some g := by
      intro g hg
      obtain ⟨L, q1, q2⟩ := List.mem_filterMap.1 hg
      obtain ⟨it, q3⟩ := inH L q1
      exact ⟨L, it, q1, q3, q2⟩
    have restE : ∀ L it g, (L, it) ∈ remLs sg H → ξ L = some g → g ∉ sg.filterMap ξ := by
      intro L it g hi hg he
      obtain ⟨q1, q2, _, _⟩ := rest L it hi
      obtain ⟨L', it', q3, q4, q5⟩ := feetE g he
      exact q2 (hc.sep L L' it it' g q1 q4 hg q5 ▸ q3)
    have hbel := c2.below
    refine ⟨N, φ2, ξ2, v, rfl, ⟨Fz.le_trans hc.le n1, fun g hg => (n2 g (Nat.lt_of_lt_of_le hg hc.below.size)).trans (hc.same g hg), n3, hc.below.trans ⟨hbel.os, hbel.tape, hbel.output, hbel.size, fun k hk he => hbel.block k (Nat.lt_of_lt_of_le hk hc.below.size) fun hm => ?_⟩, ?_, ?_, ?_, hnd, fun L hL => (lo L (Nat.lt_of_lt_of_le hL hK)).trans (hc.keep L hL)⟩, n1, lo, outA_ok n4 hφ hβ hv⟩
    · obtain ⟨L, it, _, q2, q3⟩ := feetE k hm
      rcases (hc.feet L it k q2 q3).1 with q | q
      · omega
      · exact he q
    · intro L it hi
      rcases List.mem_append.1 hi with hi | hi
      · obtain ⟨q1, q2, q3, q4⟩ := rest L it hi
        rw [q4, lo L q3]
        refine held_labs (fun l hl => lo l (hlt l ((mem_labs q1).2 l hl))) (held_kept n1 (hc.items L it q1) fun g hg => hbel.block g (foot L it q1 g hg) (restE L it g hi hg))
      · obtain ⟨L', it0, q1, q2, q3⟩ := outH_mem hi
        have q2 : L = tauL sg K L' := q2
        have q3 : it = renI (tauL sg K) it0 := q3
        rw [q2, hφ, hξ, q3]
        cases z with
        | false => rw [n4 rfl]; exact held_ren (allB_mem hp _ q1) (fun l _ => hφ l) (c2.items L' it0 q1)
        | true => exact held_ren (allB_mem hp _ q1) (fun l _ => hφ l) (held_flat (allB_mem (hz rfl) _ q1) (c2.items L' it0 q1))
    · intro L it g hi hg
      rcases List.mem_append.1 hi with hi | hi
      · obtain ⟨q1, q2, q3, q4⟩ := rest L it hi
        rw [q4] at hg
        obtain ⟨f1, f2⟩ := hc.feet L it g q1 hg
        exact ⟨f1, (n2 g (foot L it q1 g hg)).trans f2⟩
      · obtain ⟨L', it0, q1, q2, _⟩ := outH_mem hi
        have q2 : L = tauL sg K L' := q2
        rw [q2, hξ] at hg
        obtain ⟨f1, f2⟩ := c2.feet L' it0 g q1 hg
        by_cases hlt' : g < w.heap.size
        · have hE : g ∈ sg.filterMap ξ := by
            rcases f1 with f1 | f1
            · have f1 : w.heap.size ≤ g := f1
              omega
            · exact f1
          obtain ⟨L2, it2, _, q4, q5⟩ := feetE g hE
          obtain ⟨f3, f4⟩ := hc.feet L2 it2 g q4 q5
          exact ⟨f3, (n2 g hlt').trans f4⟩
        · exact ⟨.inl (Nat.le_trans hc.below.size (by omega)), (n5 g (by omega)).trans f2⟩
    · intro L L' it it' g hi hi' hg hg'
      have cross : ∀ L it L2 it2, (L, it) ∈ remLs sg H → (L2, it2) ∈ outH sg K Ho → ξ2 L = some g → ξ2 L2 = some g → False := by
        intro L it L2 it2 a1 a2 a3 a4
        obtain ⟨q1, q2, q3, q4⟩ := rest L it a1
        rw [q4] at a3
        obtain ⟨L', it3, r1, r2, _⟩ := outH_mem a2
        have r2 : L2 = tauL sg K L' := r2
        rw [r2, hξ] at a4
        obtain ⟨f1, _⟩ := c2.feet L' it3 g r1 a4
        have := foot L it q1 g a3
        rcases f1 with f1 | f1
        · have f1 : w.heap.size ≤ g := f1
          omega
        · exact restE L it g a1 a3 f1
      rcases List.mem_append.1 hi with hj | hj <;> rcases List.mem_append.1 hi' with hj' | hj'
      · obtain ⟨q1, _, _, q4⟩ := rest L it hj
        obtain ⟨q1', _, _, q4'⟩ := rest L' it' hj'
        rw [q4] at hg
        rw [q4'] at hg'
        exact hc.sep L L' it it' g q1 q1' hg hg'
      · exact (cross L it L' it' hj hj' hg hg').elim
      · exact (cross L' it' L it hj' hj hg' hg).elim
      · obtain ⟨L1, i1, r1, r2, _⟩ := outH_mem hj
        obtain ⟨L2, i2, r1', r2', _⟩ := outH_mem hj'
        have r2 : L = tauL sg K L1 := r2
        have r2' : L' = tauL sg K L2 := r2'
        rw [r2, hξ] at hg
        rw [r2', hξ] at hg'
        rw [r2, r2', c2.sep L1 L2 i1 i2 g r1 r1' hg hg']
  cases z with
  | false =>
    refine (hf.2 ⟨w, M, _, _, hc.over⟩ _ us (begin M (Fz.le_refl _) hc.over (fun L it hm _ g hg => (hc.feet L it g hm hg).2) hc.over) (g2 rfl)).mono ?_
    rintro e w' ⟨M', φ', ξ', v, rfl, c2, hv⟩
    exact back M M' M' hc.over φ' ξ' w' v c2 hv c2.le c2.same c2.over (fun _ => rfl) (fun _ _ => rfl)
  | true =>
    have lo := lentM_over (M := M) (ξ := ξ) (H := remLs sg H) hc.over
    refine (hf.2 ⟨w, lentM M ξ (remLs sg H) w, _, _, lo⟩ _ us (begin _ lentM_le lo (fun L it hm hs g hg => ?_) lo) g1).mono ?_
    · have hMg := (hc.feet L it g hm hg).2
      unfold lentM
      rw [hMg]
      simp only
      rw [if_neg]
      rintro ⟨L2, it2, q1, q2⟩
      obtain ⟨q3, q4⟩ := remLs_mem q1
      exact q4 (hc.sep L2 L it2 it g q3 hm q2 hg ▸ hs)
    · rintro e w' ⟨M', φ', ξ', v, rfl, c2, hv⟩
      let N : Fz := fun g => if g < w.heap.size then M g else M' g
      have n2 : ∀ g, g < w.heap.size → N g = M g := fun g hg => by show (if g < w.heap.size then M g else M' g) = M g; rw [if_pos hg]
      have n5 : ∀ g, w.heap.size ≤ g → N g = M' g := fun g hg => by show (if g < w.heap.size then M g else M' g) = M' g; rw [if_neg (by omega)]
      have n1 : M.le N := fun g c hg => by rw [n2 g (ltM g c hg)]; exact hg
      have n3 : Over N w' := by
        refine ⟨fun g c hg => ?_, hc.over.gl.mono n1⟩
        by_cases hl : g < w.heap.size
        · rw [n2 g hl] at hg
          obtain ⟨t, fr, e⟩ := hc.over g c hg
          refine ⟨t, fr, (c2.below.block g hl fun hE => ?_).trans e⟩
          obtain ⟨L, q1, q2⟩ := List.mem_filterMap.1 hE
          have hM' : M' g = some c := c2.le g c (lentM_le g c hg)
          have : ∃ it, (L, it) ∈ H := by
            clear begin back c2 hf g1 g2 h hnd hcr hsub hsg p1 p2
            have : ∀ (r : List Nat) (j : Nat) (Hi : AStore), pickM sg r j H = some Hi → ∀ L ∈ r, ∃ it, (L, it) ∈ H := by
              intro r
              induction r with
              | nil => intro _ _ _ L hL; cases hL
              | cons x r ih =>
                intro j Hi h L hL
                simp only [pickM] at h
                split at h
                · rename_i it q h1 h2
                  rcases List.mem_cons.1 hL with rfl | hL
                  · exact ⟨it, look_mem h1⟩
                  · exact ih _ _ h2 L hL
                · cases h
            exact this sg 0 Hi hi L q1
          obtain ⟨it, hm⟩ := this
          have := (hc.feet L it g hm q2).2
          rw [hg] at this
          cases this
        · rw [n5 g (by omega)] at hg
          exact c2.over g c hg
      exact back _ M' N lo φ' ξ' w' v c2 hv n1 n2 n3 (fun hh => by cases hh) n5
end
end Go.Proofs.YtlhbekiplnmolaaDoor
