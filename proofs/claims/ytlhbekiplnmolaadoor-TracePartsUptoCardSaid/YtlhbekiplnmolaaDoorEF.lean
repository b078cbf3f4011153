/- The machine's side, told once: rows seen anew; results of what only computes. -/
import Derived.Test.YtlhbekiplnmolaaDoorEE
set_option linter.unusedVariables false
set_option linter.unusedSimpArgs false
namespace Go.Proofs.YtlhbekiplnmolaaDoor
open Go.RowKit

/-- Every slot seen anew. -/
def mapA (f : AVal → Option AVal) : AEnv → Option AEnv
  | [] => some []
  | (s, α) :: ρ => match f α, mapA f ρ with
    | some β, some r => some ((s, β) :: r)
    | _, _ => none
def nilA (R : Nat) : AVal → Option AVal
  | .v (.nl _) _ => some (.row R)
  | _ => none
def renA (N R : Nat) : AVal → Option AVal
  | .row L => some (.row (if Nat.beq L N then R else L))
  | α => some α
def frzA (L : Nat) (s : Sh) (xs : List s.ty) : AVal → Option AVal
  | .row L' => if Nat.beq L' L then some (.v (.sl s) xs) else some (.row L')
  | α => some α
def coeOut : List Sh → List AVal → Option (List AVal)
  | [], [] => some []
  | s :: ss, α :: l => match coeA s α, coeOut ss l with
    | some β, some r => some (β :: r)
    | _, _ => none
  | _, _ => none

theorem okI {n : Int} {k : Nat} (h : 0 ≤ n ∧ n < (k : Int)) : n.toNat < k := by omega

section
variable {P : Program} {fn : Func} {n0 : Nat} {b : Base n0} {R : Exit → Act → World → Prop} {k : List KI} {ρ : AEnv} {H : AStore}

theorem mapA_ok {M M' : Fz} {φ φ' : Nat → Value} {f : AVal → Option AVal} : ∀ {ρ ρ' : AEnv} {tmps : Array Value}, (∀ t α, (t, α) ∈ ρ → ∀ β u, f α = some β → RelV P M φ α u → RelV P M' φ' β u) → mapA f ρ = some ρ' → EnvR P M φ ρ tmps → EnvR P M' φ' ρ' tmps
  | [], ρ', tmps, _, h, _ => by simp only [mapA, Option.some.injEq] at h; subst h; exact fun s α hs => by simp [look] at hs
  | (s, α) :: ρ, ρ', tmps, hf, h, he => by
    simp only [mapA] at h
    split at h
    · rename_i β r h1 h2
      simp only [Option.some.injEq] at h
      subst h
      have hlook : ∀ {ρ r : AEnv}, mapA f ρ = some r → ∀ q γ, look r q = some γ → ∃ δ, look ρ q = some δ ∧ f δ = some γ := by
        intro ρ
        induction ρ with
        | nil => intro r h q γ hq; simp only [mapA, Option.some.injEq] at h; subst h; simp [look] at hq
        | cons y ρ ih =>
          obtain ⟨s', α'⟩ := y
          intro r h q γ hq
          simp only [mapA] at h
          split at h
          · rename_i β' r' k1 k2
            simp only [Option.some.injEq] at h
            subst h
            simp only [look] at hq ⊢
            split at hq
            · rename_i e
              simp only [Option.some.injEq] at hq
              subst hq
              rw [if_pos e]
              exact ⟨α', rfl, k1⟩
            · rename_i e
              rw [if_neg e]
              exact ih k2 q γ hq
          · cases h
      intro q γ hq
      obtain ⟨δ, k1, k2⟩ := hlook (ρ := (s, α) :: ρ) (r := (s, β) :: r) (by simp [mapA, h1, h2]) q γ hq
      obtain ⟨v, k3, k4⟩ := he q δ k1
      exact ⟨v, k3, hf q δ (look_mem k1) γ v k2 k4⟩
    · cases h

theorem env_labs {t : Nat} {α : AVal} (h : (t, α) ∈ ρ) : ∀ l ∈ α.labs, l ∈ envLabs ρ := fun l hl => List.mem_flatMap.2 ⟨_, h, hl⟩

/-- A slot that holds nil, seen as a row. -/
theorem run_nilrow {ρ' : AEnv} (t L : Nat) (e : TypeId) (s : Sh) (hs : s.fixed = true) (hL : freshB n0 L ρ H = true) (h1 : mapE t (nilA L) ρ = some ρ') (h : Run P fn b R k ρ' ((L, .row e s []) :: H)) : Run P fn b R k ρ H :=
  run_st h fun tmps w ⟨M, φ, ξ, g1, g2⟩ => by
    refine ⟨M, upd φ L (.slice none 0 0), upd ξ L none, g1.grow hL rfl rfl rfl (Nat.le_refl _) (fun _ _ => rfl) ⟨hs, none, 0, rfl, .inl ⟨rfl, rfl, rfl, rfl⟩⟩ (fun g hg => by cases hg), ?_⟩
    have g3 := g2.labs (fresh_env hL (f := φ) (x := .slice none 0 0))
    refine mapE_ok (fun α β u hf hr => ?_) h1 g3
    unfold nilA at hf
    split at hf
    · simp only [Option.some.injEq] at hf
      subst hf
      obtain ⟨_, cs, rfl, hc⟩ := hr
      simp only [RepC] at hc
      subst hc
      exact ⟨by rw [upd_same]; rfl, rfl⟩
    · cases hf

/-- A row under another label. -/
theorem run_ren {ρ' : AEnv} (N L : Nat) {it : AItem} (hl : look H N = some it) (hL : freshB n0 L ρ H = true) (hp : it.labs = []) (h1 : mapA (renA N L) ρ = some ρ') {H' : AStore} (h2 : (L, it) :: remL H N = H') (h : Run P fn b R k ρ' H') : Run P fn b R k ρ H :=
  run_st h fun tmps w ⟨M, φ, ξ, g1, g2⟩ => by
    obtain ⟨H1, H2, rfl, _, hrem⟩ := look_split hl
    rw [hrem] at h2
    subst h2
    have hh := g1.items N it (look_mem hl)
    refine ⟨M, upd φ L (φ N), upd ξ L (ξ N), g1.repl hL rfl rfl rfl (Nat.le_refl _) (fun _ _ _ => rfl) (held_labs (fun l hl => by rw [hp] at hl; cases hl) hh) (fun g hg => .inr hg), ?_⟩
    refine mapA_ok (fun t α hm β u hf hr => ?_) h1 g2
    have hfr := fresh_env hL (f := φ) (x := φ N)
    unfold renA at hf
    split at hf
    · rename_i K
      simp only [Option.some.injEq] at hf
      subst hf
      split
      · rename_i e
        have e := Nat.eq_of_beq_eq_true e
        subst e
        exact ⟨by rw [upd_same]; exact hr.1, hr.2⟩
      · exact relV_labs (α := .row K) (fun l hl => hfr l (env_labs hm l hl)) hr
    · simp only [Option.some.injEq] at hf
      subst hf
      exact relV_labs (fun l hl => hfr l (env_labs hm l hl)) hr

/-- A view from a row's beginning, seen as a row; the old row is given up. -/
theorem run_subrow (t L n N : Nat) {e : TypeId} {s : Sh} {xs : List s.ty} {u0 : Nat} (hl : look H L = some (.row e s xs)) (hN : freshB n0 N ρ H = true) (hp : s.pers = true) (hn : n ≤ xs.length) (ht : look ρ t = some (.sub L u0 0 n)) {H' : AStore} (h2 : (N, .row e s (xs.take n)) :: remL H L = H') (h : Run P fn b R k ((t, .row N) :: ρ) H') : Run P fn b R k ρ H :=
  run_st h fun tmps w ⟨M, φ, ξ, g1, g2⟩ => by
    obtain ⟨u, hu, A, m, c, q1, q2, q3, B, rfl, q4⟩ := g2 t _ ht
    obtain ⟨H1, H2, rfl, _, hrem⟩ := look_split hl
    rw [hrem] at h2
    subst h2
    have hit := g1.items L _ (look_mem hl)
    refine ⟨M, upd φ N (.slice B n (c - 0)), upd ξ N (ξ L), g1.repl hN rfl rfl rfl (Nat.le_refl _) (fun _ _ _ => rfl) ?_ (fun g hg => ?_), ?_⟩
    · obtain ⟨hf, A', cap, k1, k2⟩ := hit
      rw [k1] at q1
      simp only [Value.slice.injEq] at q1
      obtain ⟨rfl, rfl, rfl⟩ := q1
      have hlen : (xs.take n).length = n := by rw [List.length_take, Nat.min_eq_left hn]
      refine ⟨hf, B, cap, by rw [hlen]; rfl, ?_⟩
      rw [q4.2 rfl]
      rcases k2 with ⟨z1, rfl, rfl, rfl⟩ | ⟨g, cc, z1, rfl, z3, z4, z5, z6, z7⟩
      · exact .inl ⟨z1, by simp, rfl, rfl⟩
      · refine .inr ⟨g, cc, z1, rfl, z3, by omega, z5, z6, ?_⟩
        have hfl : ∀ (c : List Value) (x : s.ty), RepC P φ s M c x → c.length = s.size := fun c y hc => rep_len hf hc
        have := (RepL_cut hfl (n := n) hn z7).1
        rw [List.take_take, Nat.min_eq_left (Nat.mul_le_mul_right _ hn)] at this
        rw [hlen]
        exact rep_pers (s := .lst s) hp this
    · exact .inr hg
    · have g3 := g2.labs (fresh_env hN (f := φ) (x := .slice B n (c - 0)))
      intro q α hq
      simp only [look] at hq
      split at hq
      · rename_i e
        have e := Nat.eq_of_beq_eq_true e
        simp only [Option.some.injEq] at hq
        subst e hq
        exact ⟨_, hu, by rw [upd_same], rfl⟩
      · exact g3 q α hq

/-- A row that is written no more. -/
theorem run_frz {ρ' : AEnv} (L : Nat) {e : TypeId} {s : Sh} {xs : List s.ty} (hE : b.E = []) (hl : look H L = some (.row e s xs)) (hp : s.pers = true) (h1 : mapA (frzA L s xs) ρ = some ρ') {H' : AStore} (h2 : remL H L = H') (h : Run P fn b R k ρ' H') : Run P fn b R k ρ H :=
  run_st h fun tmps w ⟨M, φ, ξ, g1, g2⟩ => by
    obtain ⟨H1, H2, hH, _, hrem⟩ := look_split hl
    rw [hrem] at h2
    subst h2
    have hm : (L, AItem.row e s xs) ∈ H := look_mem hl
    have hsub : (H1 ++ H2).Sublist H := by
      rw [hH]
      exact (List.Sublist.refl _).append (List.sublist_cons_self _ _)
    have hneL : ∀ x ∈ H1 ++ H2, x.1 ≠ L := by
      intro x hx e
      have hn := g1.nd
      rw [hH, List.map_append, List.map_cons, List.nodup_append] at hn
      obtain ⟨h1, h2, h3⟩ := hn
      rw [List.nodup_cons] at h2
      rcases List.mem_append.1 hx with h | h
      · exact h3 x.1 (List.mem_map.2 ⟨_, h, rfl⟩) L (List.mem_cons_self ..) e
      · exact h2.1 (e ▸ List.mem_map.2 ⟨_, h, rfl⟩)
    obtain ⟨hf, A, cap, k1, k2⟩ := g1.items L _ hm
    have val : ∀ {M' : Fz}, RelV P M' φ (.v (.sl s) xs) (φ L) → M.le M' → EnvR P M' φ ρ' tmps := by
      intro M' hv hle
      refine mapA_ok (fun t α _ β u hfz hr => ?_) h1 g2
      unfold frzA at hfz
      split at hfz
      · split at hfz
        · rename_i e
          have e := Nat.eq_of_beq_eq_true e
          simp only [Option.some.injEq] at hfz
          subst e hfz
          rw [hr.1]
          exact hv
        · simp only [Option.some.injEq] at hfz
          subst hfz
          exact hr
      · simp only [Option.some.injEq] at hfz
        subst hfz
        exact relV_mono hle hr
    have hfx : (Sh.sl s).fixed = true := by simp [Sh.fixed, hf, hp]
    rcases k2 with ⟨_, rfl, rfl, rfl⟩ | ⟨g, c, k3, rfl, k4, k5, k6, k7, k8⟩
    · exact ⟨M, φ, ξ, g1.sub hsub, val ⟨hfx, [φ L], by rw [k1]; rfl, none, 0, 0, [], by rw [k1]; rfl, rfl, ⟨Nat.le_refl _, by simp [maxLen]⟩, Cl.nil _ _, rfl⟩ (Fz.le_refl _)⟩
    · have hft := g1.feet L _ g hm k3
      have hge : b.w.heap.size ≤ g := by
        rcases hft.1 with h | h
        · exact h
        · rw [hE] at h; cases h
      have hle : M.le (fun x => if x = g then some c else M x) := fun x d hx => by
        by_cases e : x = g
        · subst e; rw [hft.2] at hx; cases hx
        · simp [e, hx]
      refine ⟨fun x => if x = g then some c else M x, φ, ξ, ?_, val ⟨hfx, [φ L], by rw [k1]; rfl, _, _, cap, _, by rw [k1], rfl, ⟨k5, k6⟩, ?_, rep_mono (s := .lst s) hle k8⟩ hle⟩
      · have s' := g1.sub hsub
        refine ⟨Fz.le_trans g1.le hle, fun x hx => ?_, ⟨fun x d hx => ?_, g1.over.gl.mono hle⟩, g1.below, fun K it hi => held_kept hle (s'.items K it hi) fun _ _ => rfl, fun K it x hi hx => ⟨(s'.feet K it x hi hx).1, ?_⟩, s'.sep, s'.nd, g1.keep⟩
        · have : ¬ x = g := by omega
          simp [this, g1.same x hx]
        · by_cases e : x = g
          · subst e
            simp at hx
            subst hx
            exact ⟨_, _, k4⟩
          · simp [e] at hx
            exact g1.over x d hx
        · have : ¬ x = g := fun e => by
            subst e
            exact hneL _ hi (g1.sep K L it _ x (hsub.subset hi) hm hx k3)
          simp [this, (s'.feet K it x hi hx).2]
      · intro q hq
        refine ⟨g, 0, c, rfl, by simp, ?_⟩
        rw [Nat.zero_add, List.getElem?_take_of_lt (by rw [List.length_take] at hq; omega)]
        simp

theorem coeOut_ok {M : Fz} {φ : Nat → Value} : ∀ {ss : List Sh} {l l' : List AVal} {us : List Value}, coeOut ss l = some l' → RelVs P M φ l us → RelVs P M φ l' us
  | [], [], l', us, h, hr => by simp only [coeOut, Option.some.injEq] at h; subst h; exact hr
  | s :: ss, α :: l, l', us, h, hr => by
    simp only [coeOut] at h
    split at h
    · rename_i β r h1 h2
      simp only [Option.some.injEq] at h
      subst h
      obtain ⟨u, q, rfl, k1, k2⟩ := hr
      exact ⟨u, q, rfl, coeA_ok h1 k1, coeOut_ok h2 k2⟩
    · cases h
  | [], _ :: _, _, _, h, _ => by simp [coeOut] at h
  | _ :: _, [], _, _, h, _ => by simp [coeOut] at h
theorem coeOut_len : ∀ {ss : List Sh} {l l' : List AVal}, coeOut ss l = some l' → l'.length = l.length
  | [], [], l', h => by simp only [coeOut, Option.some.injEq] at h; subst h; rfl
  | s :: ss, α :: l, l', h => by
    simp only [coeOut] at h
    split at h
    · rename_i β r h1 h2
      simp only [Option.some.injEq] at h
      subst h
      simp [coeOut_len h2]
    · cases h
  | [], _ :: _, _, h => by simp [coeOut] at h
  | _ :: _, [], _, h => by simp [coeOut] at h
theorem one_ok {M : Fz} {φ : Nat → Value} {ss : List Sh} {l l' : List AVal} {u : Value} (h : coeOut ss l = some l') (hr : RelV P M φ (one l) u) : RelV P M φ (one l') u := by
  have hl := coeOut_len h
  match l, l', h, hl, hr with
  | [], [], _, _, hr => exact hr
  | [α], [β], h, _, hr =>
    have := coeOut_ok h (us := [u]) ⟨u, [], rfl, hr, rfl⟩
    obtain ⟨v, r, e, h1, h2⟩ := this
    simp only [List.cons.injEq] at e
    rw [e.1]
    exact h1
  | α :: γ :: l, β :: δ :: l', h, _, hr =>
    obtain ⟨us, e, h1⟩ := hr
    exact ⟨us, e, coeOut_ok h h1⟩
end

def resP (P : Program) (ρ : AEnv) (H : AStore) (rs : List ResultVar) (ss : List Sh) : Option (List AVal) := match resAs P ρ H rs with
  | some q => match coeOut ss q with
    | some q' => if (one q).labs.isEmpty then some q' else none
    | none => none
  | none => none
/-- The result of what only computes. -/
theorem ret_pure {P : Program} {fn : Func} {w : World} {M : Fz} {ho : Over M w} {k : List KI} {ρ : AEnv} {H : AStore} {c : Code} {q : List AVal} {β : AVal} (ss : List Sh) (hc : Code.kind c = .ret) (hb : one q = β) (hq : resP P ρ H fn.results.toList ss = some q) : Run P fn (base0 w M ho) (bodyPost P fn (PureR P w M β)) (.code c :: k) ρ H := by
  subst hb
  unfold resP at hq
  split at hq
  · rename_i q0 h1
    split at hq
    · rename_i q1 h2
      split at hq
      · rename_i h3
        simp only [Option.some.injEq] at hq
        subst hq
        rw [List.isEmpty_iff] at h3
        exact run_ret hc h1 (pureR h3 fun _ _ h => one_ok h2 h)
      · cases hq
    · cases hq
  · cases hq
theorem fall_pure {P : Program} {fn : Func} {w : World} {M : Fz} {ho : Over M w} {ρ : AEnv} {H : AStore} {q : List AVal} {β : AVal} (ss : List Sh) (hb : one q = β) (hq : resP P ρ H fn.results.toList ss = some q) : Run P fn (base0 w M ho) (bodyPost P fn (PureR P w M β)) [] ρ H := by
  subst hb
  unfold resP at hq
  split at hq
  · rename_i q0 h1
    split at hq
    · rename_i q1 h2
      split at hq
      · rename_i h3
        simp only [Option.some.injEq] at hq
        subst hq
        rw [List.isEmpty_iff] at h3
        exact run_fall h1 (pureR h3 fun _ _ h => one_ok h2 h)
      · cases hq
    · cases hq
  · cases hq
end Go.Proofs.YtlhbekiplnmolaaDoor
