/- The machine's side, told once: a piece of code over a part of memory, the rest beside it. -/
import Derived.Test.YtlhbekiplnmolaaDoorEJ
set_option linter.unusedVariables false
set_option linter.unusedSimpArgs false
namespace Go.Proofs.YtlhbekiplnmolaaDoor
open Go.RowKit

section
variable {P : Program} {fn : Func} {n0 : Nat} {b : Base n0} {R : Exit → Act → World → Prop} {k : List KI} {ρ : AEnv} {H : AStore}

/-- What lies at labels from B on is beside what the code does. -/
theorem run_local {c : Code} {n1 B : Nat} {ρ' : AEnv} {H' F : AStore} (hn : n0 ≤ n1) (hB : n1 ≤ B) (hlt : ltB B (envLabs ρ' ++ storeLabs H') = true) (hF : ∀ l ∈ storeLabs F, B ≤ l)
    (hseg : ∀ (b' : Base n1) (R' : Exit → Act → World → Prop), Run P fn b' R' [] ρ' H' → Run P fn b' R' [.code c] ρ H) (h : Run P fn b R k ρ' (H' ++ F)) : Run P fn b R (.code c :: k) ρ (H ++ F) := by
  intro a w h1 h2 h3
  obtain ⟨M, φ, ξ, hc, he⟩ := h1
  have hcH := hc.sub (List.sublist_append_left H F)
  have hcF := hc.sub (List.sublist_append_right H F)
  let b' : Base n1 := ⟨w, M, H.filterMap (fun x => ξ x.1), φ, hc.over⟩
  have inE : ∀ g, g ∈ b'.E → ∃ L it, (L, it) ∈ H ∧ ξ L = some g := fun g hg => by
    obtain ⟨x, hx, e⟩ := List.mem_filterMap.1 hg
    exact ⟨x.1, x.2, hx, e⟩
  have c0 : Core P b' M φ ξ H w := ⟨Fz.le_refl _, fun _ _ => rfl, hc.over, BelowX.refl _ _ _, hcH.items, fun L it g hi hg => ⟨.inr (List.mem_filterMap.2 ⟨_, hi, hg⟩), (hcH.feet L it g hi hg).2⟩, hcH.sep, hcH.nd, fun _ _ => rfl⟩
  have ltl := ltB_mem hlt
  have ndF := hcF.nd
  have foot : ∀ L it, (L, it) ∈ F → ∀ g, ξ L = some g → g < w.heap.size ∧ g ∉ b'.E := fun L it hi g hg => by
    refine ⟨held_lt (hcF.items L it hi) g hg, fun hE => ?_⟩
    obtain ⟨L2, it2, q1, q2⟩ := inE g hE
    have := hc.sep L L2 it it2 g (List.mem_append_right _ hi) (List.mem_append_left _ q1) hg q2
    subst this
    have hn2 := hc.nd
    rw [List.map_append, List.nodup_append] at hn2
    exact hn2.2.2 L (List.mem_map.2 ⟨_, q1, rfl⟩) L (List.mem_map.2 ⟨_, hi, rfl⟩) rfl
  have main : Run P fn b' (kwp P R k) [] ρ' H' := by
    intro a' w' g1 g2 g3
    obtain ⟨M', φ', ξ', c2, he2⟩ := g1
    refine h a' w' ?_ g2 g3
    let φ2 : Nat → Value := fun l => if B ≤ l then φ l else φ' l
    let ξ2 : Nat → Option Nat := fun l => if B ≤ l then ξ l else ξ' l
    have lo : ∀ l, l < B → φ2 l = φ' l ∧ ξ2 l = ξ' l := fun l hl => ⟨if_neg (by omega), if_neg (by omega)⟩
    have hi : ∀ l, B ≤ l → φ2 l = φ l ∧ ξ2 l = ξ l := fun l hl => ⟨if_pos hl, if_pos hl⟩
    have labH : ∀ {L it}, (L, it) ∈ H' → L < B ∧ ∀ l ∈ it.labs, l < B := fun hm => ⟨ltl _ (List.mem_append_right _ (mem_labs hm).1), fun l hl => ltl _ (List.mem_append_right _ ((mem_labs hm).2 l hl))⟩
    have labF : ∀ {L it}, (L, it) ∈ F → B ≤ L ∧ ∀ l ∈ it.labs, B ≤ l := fun hm => ⟨hF _ (mem_labs hm).1, fun l hl => hF _ ((mem_labs hm).2 l hl)⟩
    have hbel := c2.below
    refine ⟨M', φ2, ξ2, ⟨Fz.le_trans hc.le c2.le, fun g hg => (c2.same g (Nat.lt_of_lt_of_le hg hc.below.size)).trans (hc.same g hg), c2.over, hc.below.trans ⟨hbel.os, hbel.tape, hbel.output, hbel.size, fun g hg he => hbel.block g (Nat.lt_of_lt_of_le hg hc.below.size) fun hm => ?_⟩, ?_, ?_, ?_, ?_, fun L hL => ?_⟩, fun t α ht => ?_⟩
    · obtain ⟨L, it, q1, q2⟩ := inE g hm
      rcases (hcH.feet L it g q1 q2).1 with q | q
      · omega
      · exact he q
    · intro L it hm
      rcases List.mem_append.1 hm with hm | hm
      · obtain ⟨l1, l2⟩ := labH hm
        rw [(lo L l1).1, (lo L l1).2]
        exact held_labs (fun l hl => (lo l (l2 l hl)).1) (c2.items L it hm)
      · obtain ⟨l1, l2⟩ := labF hm
        rw [(hi L l1).1, (hi L l1).2]
        exact held_labs (fun l hl => (hi l (l2 l hl)).1) (held_kept c2.le (hcF.items L it hm) fun g hg => hbel.block g (foot L it hm g hg).1 (foot L it hm g hg).2)
    · intro L it g hm hg
      rcases List.mem_append.1 hm with hm | hm
      · rw [(lo L (labH hm).1).2] at hg
        obtain ⟨f1, f2⟩ := c2.feet L it g hm hg
        refine ⟨?_, f2⟩
        rcases f1 with f1 | f1
        · exact .inl (Nat.le_trans hc.below.size f1)
        · obtain ⟨L2, it2, q1, q2⟩ := inE g f1
          exact (hcH.feet L2 it2 g q1 q2).1
      · rw [(hi L (labF hm).1).2] at hg
        obtain ⟨f1, f2⟩ := hcF.feet L it g hm hg
        exact ⟨f1, (c2.same g (foot L it hm g hg).1).trans f2⟩
    · intro L L' it it' g hm hm' hg hg'
      have cross : ∀ L it L2 it2, (L, it) ∈ H' → (L2, it2) ∈ F → ξ2 L = some g → ξ2 L2 = some g → False := by
        intro L it L2 it2 a1 a2 a3 a4
        rw [(lo L (labH a1).1).2] at a3
        rw [(hi L2 (labF a2).1).2] at a4
        obtain ⟨f1, f2⟩ := foot L2 it2 a2 g a4
        rcases (c2.feet L it g a1 a3).1 with q | q
        · have q : w.heap.size ≤ g := q
          omega
        · exact f2 q
      rcases List.mem_append.1 hm with hm | hm <;> rcases List.mem_append.1 hm' with hm' | hm'
      · rw [(lo L (labH hm).1).2] at hg
        rw [(lo L' (labH hm').1).2] at hg'
        exact c2.sep L L' it it' g hm hm' hg hg'
      · exact (cross L it L' it' hm hm' hg hg').elim
      · exact (cross L' it' L it hm' hm hg' hg).elim
      · rw [(hi L (labF hm).1).2] at hg
        rw [(hi L' (labF hm').1).2] at hg'
        exact hcF.sep L L' it it' g hm hm' hg hg'
    · rw [List.map_append, List.nodup_append]
      refine ⟨c2.nd, ndF, fun x hx y hy e => ?_⟩
      obtain ⟨u, hu, rfl⟩ := List.mem_map.1 hx
      obtain ⟨v, hv, rfl⟩ := List.mem_map.1 hy
      have h1 := (labH (L := u.1) (it := u.2) hu).1
      have h2 := (labF (L := v.1) (it := v.2) hv).1
      have e : u.1 = v.1 := e
      omega
    · rw [(lo L (by omega)).1]
      exact (c2.keep L (by omega)).trans (hc.keep L hL)
    · obtain ⟨v, q1, q2⟩ := he2 t α ht
      exact ⟨v, q1, relV_labs (fun l hl => (lo l (ltl l (List.mem_append_left _ (List.mem_flatMap.2 ⟨_, look_mem ht, hl⟩)))).1) q2⟩
  exact hseg b' (kwp P R k) main a w ⟨M, φ, ξ, c0, he⟩ h2 h3

def renB (N L : Nat) : AVal → Option AVal
  | .row K => some (.row (if Nat.beq K N then L else K))
  | .ptr K p off => some (.ptr (if Nat.beq K N then L else K) p off)
  | α => some α
/-- An item of any kind under another label, in what is held too. -/
theorem run_renV {ρ' : AEnv} (N L : Nat) {it : AItem} (hl : look H N = some it) (hL : freshB n0 L ρ H = true) (hq : allB AItem.rnB ((L, it) :: remL H N) = true) (h1 : mapA (renB N L) ρ = some ρ') {H' : AStore} (h2 : renHs (renF N L) ((L, it) :: remL H N) = H') (h : Run P fn b R k ρ' H') : Run P fn b R k ρ H :=
  run_st h fun tmps w ⟨M, φ, ξ, g1, g2⟩ => by
    obtain ⟨H1, H2, rfl, _, hrem⟩ := look_split hl
    rw [hrem] at h2 hq
    subst h2
    have hh := g1.items N it (look_mem hl)
    have hne : N ≠ L := fresh_store hL N (mem_labs (look_mem hl)).1
    refine ⟨M, upd φ L (φ N), upd ξ L (ξ N), Core.renAll (g1.repl hL rfl rfl rfl (Nat.le_refl _) (fun _ _ _ => rfl) (held_labs (fun l hl' => upd_ne (fresh_store hL l ((mem_labs (look_mem hl)).2 l hl'))) hh) (fun g hg => .inr hg)) hq (fun l => ?_), ?_⟩
    · unfold renF
      split
      · rename_i e
        have e := Nat.eq_of_beq_eq_true e
        subst e
        rw [upd_same, upd_ne hne]
      · rfl
    · refine mapA_ok (fun t α hm β u hf hr => ?_) h1 g2
      have hfr := fresh_env hL (f := φ) (x := φ N)
      unfold renB at hf
      split at hf
      · rename_i K
        simp only [Option.some.injEq] at hf
        subst hf
        split
        · rename_i e
          have e := Nat.eq_of_beq_eq_true e
          subst e
          exact ⟨by rw [upd_same]; exact hr.1, hr.2⟩
        · exact relV_labs (α := .row K) (fun l hl => hfr l (env_labs hm l hl)) hr
      · rename_i K p off
        simp only [Option.some.injEq] at hf
        subst hf
        split
        · rename_i e
          have e := Nat.eq_of_beq_eq_true e
          subst e
          obtain ⟨g, q1, q2⟩ := hr
          exact ⟨g, by rw [upd_same]; exact q1, q2⟩
        · exact relV_labs (α := .ptr K p off) (fun l hl => hfr l (env_labs hm l hl)) hr
      · simp only [Option.some.injEq] at hf
        subst hf
        exact relV_labs (fun l hl => hfr l (env_labs hm l hl)) hr
end
end Go.Proofs.YtlhbekiplnmolaaDoor
