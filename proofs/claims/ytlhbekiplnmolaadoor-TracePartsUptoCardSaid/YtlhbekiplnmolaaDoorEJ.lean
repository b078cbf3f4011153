/- The machine's side, told once: contents that name rows; rows renamed there too, nil fields seen as rows. -/
import Derived.Test.YtlhbekiplnmolaaDoorEI
set_option linter.unusedVariables false
set_option linter.unusedSimpArgs false
namespace Go.Proofs.YtlhbekiplnmolaaDoor
open Go.RowKit

def renF (N L : Nat) (x : Nat) : Nat := if Nat.beq x N then L else x
def renHs (f : Nat → Nat) : AStore → AStore
  | [] => []
  | x :: H => (x.1, renI f x.2) :: renHs f H
theorem renHs_mem {f : Nat → Nat} : ∀ {H : AStore} {x : Nat × AItem}, x ∈ renHs f H → ∃ it, (x.1, it) ∈ H ∧ x.2 = renI f it
  | [], x, h => by cases h
  | y :: H, x, h => by
    simp only [renHs] at h
    rcases List.mem_cons.1 h with rfl | h
    · exact ⟨y.2, List.mem_cons_self .., rfl⟩
    · obtain ⟨it, h1, h2⟩ := renHs_mem h; exact ⟨it, List.mem_cons_of_mem _ h1, h2⟩
theorem renHs_fst {f : Nat → Nat} : ∀ {H : AStore}, (renHs f H).map Prod.fst = H.map Prod.fst
  | [] => rfl
  | y :: H => by simp [renHs, renHs_fst]

section
variable {P : Program} {fn : Func} {n0 : Nat} {b : Base n0} {R : Exit → Act → World → Prop} {k : List KI} {M : Fz} {φ : Nat → Value} {ξ : Nat → Option Nat} {H : AStore} {w : World} {ρ : AEnv}

theorem Core.renAll {f : Nat → Nat} (s : Core P b M φ ξ H w) (hr : allB AItem.rnB H = true) (hf : ∀ l, φ (f l) = φ l) : Core P b M φ ξ (renHs f H) w := by
  refine ⟨s.le, s.same, s.over, s.below, fun L it hi => ?_, fun L it g hi hg => ?_, fun L L' it it' g hi hi' hg hg' => ?_, by rw [renHs_fst]; exact s.nd, s.keep⟩
  · obtain ⟨it0, h1, h2⟩ := renHs_mem hi
    have h2 : it = renI f it0 := h2
    rw [h2]
    exact held_ren (allB_mem hr _ h1) (fun l _ => hf l) (s.items L it0 h1)
  · obtain ⟨it0, h1, _⟩ := renHs_mem hi
    exact s.feet L it0 g h1 hg
  · obtain ⟨i1, h1, _⟩ := renHs_mem hi
    obtain ⟨i2, h2, _⟩ := renHs_mem hi'
    exact s.sep L L' i1 i2 g h1 h2 hg hg'
theorem Core.seen {H1 H2 : AStore} {L : Nat} {it it' : AItem} (s : Core P b M φ ξ (H1 ++ (L, it) :: H2) w) (h : Held P M φ w (φ L) (ξ L) it → Held P M φ w (φ L) (ξ L) it') : Core P b M φ ξ (H1 ++ (L, it') :: H2) w := by
  have mem : ∀ {l i}, (l, i) ∈ H1 ++ (L, it') :: H2 → ∃ i', (l, i') ∈ H1 ++ (L, it) :: H2 ∧ (i = i' ∨ (l = L ∧ i = it' ∧ i' = it)) := by
    intro l i hi
    rcases List.mem_append.1 hi with hi | hi
    · exact ⟨i, List.mem_append_left _ hi, .inl rfl⟩
    · rcases List.mem_cons.1 hi with e | hi
      · simp only [Prod.mk.injEq] at e
        obtain ⟨rfl, rfl⟩ := e
        exact ⟨it, List.mem_append_right _ (List.mem_cons_self ..), .inr ⟨rfl, rfl, rfl⟩⟩
      · exact ⟨i, List.mem_append_right _ (List.mem_cons_of_mem _ hi), .inl rfl⟩
  refine ⟨s.le, s.same, s.over, s.below, fun l i hi => ?_, fun l i g hi hg => ?_, fun l l' i i' g hi hi' hg hg' => ?_, by simpa using s.nd, s.keep⟩
  · obtain ⟨i', h1, h2⟩ := mem hi
    rcases h2 with rfl | ⟨rfl, rfl, rfl⟩
    · exact s.items l _ h1
    · exact h (s.items l _ h1)
  · obtain ⟨i', h1, _⟩ := mem hi
    exact s.feet l i' g h1 hg
  · obtain ⟨j, h1, _⟩ := mem hi
    obtain ⟨j', h1', _⟩ := mem hi'
    exact s.sep l l' j j' g h1 h1' hg hg'

/-- A row under another label, in what is held too. -/
theorem run_renF {ρ' : AEnv} (N L : Nat) {it : AItem} (hl : look H N = some it) (hL : freshB n0 L ρ H = true) (hp : it.labs = []) (hq : allB AItem.rnB ((L, it) :: remL H N) = true) (h1 : mapA (renA N L) ρ = some ρ') {H' : AStore} (h2 : renHs (renF N L) ((L, it) :: remL H N) = H') (h : Run P fn b R k ρ' H') : Run P fn b R k ρ H :=
  run_st h fun tmps w ⟨M, φ, ξ, g1, g2⟩ => by
    obtain ⟨H1, H2, rfl, _, hrem⟩ := look_split hl
    rw [hrem] at h2 hq
    subst h2
    have hh := g1.items N it (look_mem hl)
    have hne : N ≠ L := fresh_store hL N (mem_labs (look_mem hl)).1
    refine ⟨M, upd φ L (φ N), upd ξ L (ξ N), Core.renAll (g1.repl hL rfl rfl rfl (Nat.le_refl _) (fun _ _ _ => rfl) (held_labs (fun l hl => by rw [hp] at hl; cases hl) hh) (fun g hg => .inr hg)) hq (fun l => ?_), ?_⟩
    · unfold renF
      split
      · rename_i e
        have e := Nat.eq_of_beq_eq_true e
        subst e
        rw [upd_same, upd_ne hne]
      · rfl
    · refine mapA_ok (fun t α hm β u hf hr => ?_) h1 g2
      have hfr := fresh_env hL (f := φ) (x := φ N)
      unfold renA at hf
      split at hf
      · rename_i K
        simp only [Option.some.injEq] at hf
        subst hf
        split
        · rename_i e
          have e := Nat.eq_of_beq_eq_true e
          subst e
          exact ⟨by rw [upd_same]; exact hr.1, hr.2⟩
        · exact relV_labs (α := .row K) (fun l hl => hfr l (env_labs hm l hl)) hr
      · simp only [Option.some.injEq] at hf
        subst hf
        exact relV_labs (fun l hl => hfr l (env_labs hm l hl)) hr

/-- A field that holds nil, seen as a row. -/
theorem run_nilF (V L : Nat) (p : Path) (e : TypeId) (s : Sh) {T : TypeId} {S t : Sh} {x : S.ty} {y : Unit} {r : TV} (hs : s.fixed = true) (hl : look H V = some (.var T S x)) (hg : getP S x p = some ⟨.nl t, y⟩) (hi : noI p = true) (hr : setP S x p ⟨.ref, L⟩ = some r) (hf : r.1.fixed = true) (hL : freshB n0 L ρ H = true) {H' : AStore} (h2 : (L, .row e s []) :: setL H V (.var T r.1 r.2) = H') (h : Run P fn b R k ρ H') : Run P fn b R k ρ H :=
  run_st h fun tmps w ⟨M, φ, ξ, g1, g2⟩ => by
    obtain ⟨H1, H2, rfl, hset, _⟩ := look_split hl
    rw [hset] at h2
    subst h2
    have g4 := g1.grow (u := .slice none 0 0) (o := none) (it := .row e s []) hL rfl rfl rfl (Nat.le_refl _) (fun _ _ => rfl) ⟨hs, none, 0, rfl, .inl ⟨rfl, rfl, rfl, rfl⟩⟩ (fun g hg => by cases hg)
    refine ⟨M, upd φ L (.slice none 0 0), upd ξ L none, Core.seen (H1 := (L, .row e s []) :: H1) g4 ?_, g2.labs (fresh_env hL (f := φ) (x := .slice none 0 0))⟩
    rintro ⟨q1, g, c, q2, q3, q4, q5⟩
    obtain ⟨pre, cs, post, k1, k2, k3, k4⟩ := rep_get (.inl q1) q5 hg (okP_noI hi hg)
    refine ⟨hf, g, c, q2, q3, q4, ?_⟩
    rw [k1]
    refine k4 cs ⟨.ref, L⟩ r rfl ?_ hr
    simp only [RepC] at k3
    subst k3
    exact ⟨by show _ = [upd φ L _ L]; rw [upd_same], by show (upd φ L (Value.slice none 0 0) L).oneCell' = true; rw [upd_same]; rfl⟩

/-- A field that holds nil, seen as nil or one's own address. -/
theorem run_npF (V L : Nat) (p : Path) {T : TypeId} {S : Sh} {x : S.ty} {y : Unit} {r : TV} (hl : look H V = some (.var T S x)) (hg : getP S x p = some ⟨.np, y⟩) (hi : noI p = true) (hr : setP S x p ⟨.oref, L⟩ = some r) (hf : r.1.fixed = true) {H' : AStore} (h2 : setL H V (.var T r.1 r.2) = H') (h : Run P fn b R k ρ H') : Run P fn b R k ρ H :=
  run_st h fun tmps w ⟨M, φ, ξ, g1, g2⟩ => by
    obtain ⟨H1, H2, rfl, hset, _⟩ := look_split hl
    rw [hset] at h2
    subst h2
    refine ⟨M, φ, ξ, Core.seen g1 ?_, g2⟩
    rintro ⟨q1, g, c, q2, q3, q4, q5⟩
    obtain ⟨pre, cs, post, k1, k2, k3, k4⟩ := rep_get (.inl q1) q5 hg (okP_noI hi hg)
    refine ⟨hf, g, c, q2, q3, q4, ?_⟩
    rw [k1]
    refine k4 cs ⟨.oref, L⟩ r rfl ?_ hr
    simp only [RepC] at k3
    subst k3
    exact ⟨_, rfl, rfl, .inl rfl⟩
end
end Go.Proofs.YtlhbekiplnmolaaDoor
