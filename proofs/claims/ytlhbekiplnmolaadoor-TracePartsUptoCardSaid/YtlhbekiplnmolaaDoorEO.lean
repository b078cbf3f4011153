/- The machine's side, told once: a piece of code over a part of memory, some of whose labels the rest names; labels renamed all at once. -/
import Derived.Test.YtlhbekiplnmolaaDoorEN
set_option linter.unusedVariables false
set_option linter.unusedSimpArgs false
namespace Go.Proofs.YtlhbekiplnmolaaDoor
open Go.RowKit

section
variable {P : Program} {fn : Func} {n0 : Nat} {b : Base n0} {R : Exit → Act → World → Prop} {k : List KI} {ρ : AEnv} {H : AStore}

/-- What lies at labels from B on, or below n1, may stand beside what the code does. -/
theorem run_beside {c : Code} {n1 B : Nat} {ρ' : AEnv} {H' G G' : AStore} (H F : AStore) (hG : G = H ++ F) (hG' : H' ++ F = G') (hn : n0 ≤ n1) (hB : n1 ≤ B) (hlt : ltB B (envLabs ρ' ++ storeLabs H') = true) (hF : ∀ l ∈ storeLabs F, l < n1 ∨ B ≤ l)
    (hd : ∀ x ∈ F, (H'.map Prod.fst).any (Nat.beq x.1) = false)
    (hseg : ∀ (b' : Base n1) (R' : Exit → Act → World → Prop), Run P fn b' R' [] ρ' H' → Run P fn b' R' [.code c] ρ H) (h : Run P fn b R k ρ' G') : Run P fn b R (.code c :: k) ρ G := by
  subst hG hG'
  intro a w h1 h2 h3
  obtain ⟨M, φ, ξ, hc, he⟩ := h1
  have hcH := hc.sub (List.sublist_append_left H F)
  have hcF := hc.sub (List.sublist_append_right H F)
  let b' : Base n1 := ⟨w, M, H.filterMap (fun x => ξ x.1), φ, hc.over⟩
  have inE : ∀ g, g ∈ b'.E → ∃ L it, (L, it) ∈ H ∧ ξ L = some g := fun g hg => by
    obtain ⟨x, hx, e⟩ := List.mem_filterMap.1 hg
    exact ⟨x.1, x.2, hx, e⟩
  have c0 : Core P b' M φ ξ H w := ⟨Fz.le_refl _, fun _ _ => rfl, hc.over, BelowX.refl _ _ _, hcH.items, fun L it g hi hg => ⟨.inr (List.mem_filterMap.2 ⟨_, hi, hg⟩), (hcH.feet L it g hi hg).2⟩, hcH.sep, hcH.nd, fun _ _ => rfl⟩
  have ltl := ltB_mem hlt
  have ndF := hcF.nd
  have foot : ∀ L it, (L, it) ∈ F → ∀ g, ξ L = some g → g < w.heap.size ∧ g ∉ b'.E := fun L it hi g hg => by
    refine ⟨held_lt (hcF.items L it hi) g hg, fun hE => ?_⟩
    obtain ⟨L2, it2, q1, q2⟩ := inE g hE
    have := hc.sep L L2 it it2 g (List.mem_append_right _ hi) (List.mem_append_left _ q1) hg q2
    subst this
    have hn2 := hc.nd
    rw [List.map_append, List.nodup_append] at hn2
    exact hn2.2.2 L (List.mem_map.2 ⟨_, q1, rfl⟩) L (List.mem_map.2 ⟨_, hi, rfl⟩) rfl
  have apart : ∀ {L L2 it it2}, (L, it) ∈ H' → (L2, it2) ∈ F → L ≠ L2 := fun {L L2 it it2} q1 q2 e => by
    have := hd _ q2
    rw [List.any_eq_false] at this
    exact this L (List.mem_map.2 ⟨_, q1, rfl⟩) (by subst e; simp)
  classical
  have main : Run P fn b' (kwp P R k) [] ρ' H' := by
    intro a' w' g1 g2 g3
    obtain ⟨M', φ', ξ', c2, he2⟩ := g1
    refine h a' w' ?_ g2 g3
    let φ2 : Nat → Value := fun l => if B ≤ l then φ l else φ' l
    let ξ2 : Nat → Option Nat := fun l => if ∃ it, (l, it) ∈ F then ξ l else ξ' l
    have lo : ∀ l, l < B → φ2 l = φ' l := fun l hl => if_neg (by omega)
    have hi : ∀ l, B ≤ l → φ2 l = φ l := fun l hl => if_pos hl
    have hk : ∀ l, l < n1 ∨ B ≤ l → φ2 l = φ l := fun l hl => by
      by_cases hb : B ≤ l
      · exact hi l hb
      · rw [lo l (by omega)]; exact c2.keep l (by omega)
    have xF : ∀ {L it}, (L, it) ∈ F → ξ2 L = ξ L := fun {L it} hm => if_pos ⟨it, hm⟩
    have xH : ∀ {L it}, (L, it) ∈ H' → ξ2 L = ξ' L := fun {L it} hm => if_neg fun ⟨it2, q⟩ => apart hm q rfl
    have labH : ∀ {L it}, (L, it) ∈ H' → L < B ∧ ∀ l ∈ it.labs, l < B := fun hm => ⟨ltl _ (List.mem_append_right _ (mem_labs hm).1), fun l hl => ltl _ (List.mem_append_right _ ((mem_labs hm).2 l hl))⟩
    have labF : ∀ {L it}, (L, it) ∈ F → (L < n1 ∨ B ≤ L) ∧ ∀ l ∈ it.labs, l < n1 ∨ B ≤ l := fun hm => ⟨hF _ (mem_labs hm).1, fun l hl => hF _ ((mem_labs hm).2 l hl)⟩
    have hbel := c2.below
    refine ⟨M', φ2, ξ2, ⟨Fz.le_trans hc.le c2.le, fun g hg => (c2.same g (Nat.lt_of_lt_of_le hg hc.below.size)).trans (hc.same g hg), c2.over, hc.below.trans ⟨hbel.os, hbel.tape, hbel.output, hbel.size, fun g hg he => hbel.block g (Nat.lt_of_lt_of_le hg hc.below.size) fun hm => ?_⟩, ?_, ?_, ?_, ?_, fun L hL => ?_⟩, fun t α ht => ?_⟩
    · obtain ⟨L, it, q1, q2⟩ := inE g hm
      rcases (hcH.feet L it g q1 q2).1 with q | q
      · omega
      · exact he q
    · intro L it hm
      rcases List.mem_append.1 hm with hm | hm
      · obtain ⟨l1, l2⟩ := labH hm
        rw [lo L l1, xH hm]
        exact held_labs (fun l hl => lo l (l2 l hl)) (c2.items L it hm)
      · obtain ⟨l1, l2⟩ := labF hm
        rw [hk L l1, xF hm]
        exact held_labs (fun l hl => hk l (l2 l hl)) (held_kept c2.le (hcF.items L it hm) fun g hg => hbel.block g (foot L it hm g hg).1 (foot L it hm g hg).2)
    · intro L it g hm hg
      rcases List.mem_append.1 hm with hm | hm
      · rw [xH hm] at hg
        obtain ⟨f1, f2⟩ := c2.feet L it g hm hg
        refine ⟨?_, f2⟩
        rcases f1 with f1 | f1
        · exact .inl (Nat.le_trans hc.below.size f1)
        · obtain ⟨L2, it2, q1, q2⟩ := inE g f1
          exact (hcH.feet L2 it2 g q1 q2).1
      · rw [xF hm] at hg
        obtain ⟨f1, f2⟩ := hcF.feet L it g hm hg
        exact ⟨f1, (c2.same g (foot L it hm g hg).1).trans f2⟩
    · intro L L' it it' g hm hm' hg hg'
      have cross : ∀ L it L2 it2, (L, it) ∈ H' → (L2, it2) ∈ F → ξ2 L = some g → ξ2 L2 = some g → False := by
        intro L it L2 it2 a1 a2 a3 a4
        rw [xH a1] at a3
        rw [xF a2] at a4
        obtain ⟨f1, f2⟩ := foot L2 it2 a2 g a4
        rcases (c2.feet L it g a1 a3).1 with q | q
        · have q : w.heap.size ≤ g := q
          omega
        · exact f2 q
      rcases List.mem_append.1 hm with hm | hm <;> rcases List.mem_append.1 hm' with hm' | hm'
      · rw [xH hm] at hg
        rw [xH hm'] at hg'
        exact c2.sep L L' it it' g hm hm' hg hg'
      · exact (cross L it L' it' hm hm' hg hg').elim
      · exact (cross L' it' L it hm' hm hg' hg).elim
      · rw [xF hm] at hg
        rw [xF hm'] at hg'
        exact hcF.sep L L' it it' g hm hm' hg hg'
    · rw [List.map_append, List.nodup_append]
      refine ⟨c2.nd, ndF, fun x hx y hy e => ?_⟩
      obtain ⟨u, hu, rfl⟩ := List.mem_map.1 hx
      obtain ⟨v, hv, rfl⟩ := List.mem_map.1 hy
      exact apart (L := u.1) (it := u.2) (L2 := v.1) (it2 := v.2) hu hv e
    · rw [hk L (.inl (by omega))]
      exact hc.keep L hL
    · obtain ⟨v, q1, q2⟩ := he2 t α ht
      exact ⟨v, q1, relV_labs (fun l hl => lo l (ltl l (List.mem_append_left _ (List.mem_flatMap.2 ⟨_, look_mem ht, hl⟩)))) q2⟩
  exact hseg b' (kwp P R k) main a w ⟨M, φ, ξ, c0, he⟩ h2 h3

/-- Labels renamed all at once; what slots name stays. -/
theorem run_relab (f g : Nat → Nat) {H' : AStore} (hg : ∀ l ∈ storeLabs H, g (f l) = l) (he : ∀ l ∈ envLabs ρ, g l = l) (hn : ∀ l, l < n0 → g l = l) (hr : allB AItem.rnB H = true)
    (hp : (H.map fun x => (f x.1, renI f x.2)).Perm H') (h : Run P fn b R k ρ H') : Run P fn b R k ρ H :=
  run_st h fun tmps w ⟨M, φ, ξ, c, e⟩ => by
    have mem : ∀ {L it}, (L, it) ∈ (H.map fun x => (f x.1, renI f x.2)) → ∃ L0 it0, (L0, it0) ∈ H ∧ L = f L0 ∧ it = renI f it0 := fun hm => by
      obtain ⟨x, hx, q⟩ := List.mem_map.1 hm
      simp only [Prod.mk.injEq] at q
      exact ⟨x.1, x.2, hx, q.1.symm, q.2.symm⟩
    have gf : ∀ {L it}, (L, it) ∈ H → g (f L) = L := fun hm => hg _ (mem_labs hm).1
    refine ⟨M, fun l => φ (g l), fun l => ξ (g l), Core.perm ⟨c.le, c.same, c.over, c.below, ?_, ?_, ?_, ?_, fun L hL => by rw [hn L hL]; exact c.keep L hL⟩ hp, e.labs fun l hl => by rw [he l hl]⟩
    · intro L it hm
      obtain ⟨L0, it0, h0, rfl, rfl⟩ := mem hm
      simp only [gf h0]
      exact held_ren (allB_mem hr _ h0) (fun l hl => by rw [hg l ((mem_labs h0).2 l hl)]) (c.items L0 it0 h0)
    · intro L it gg hm hx
      obtain ⟨L0, it0, h0, rfl, rfl⟩ := mem hm
      simp only [gf h0] at hx
      exact c.feet L0 it0 gg h0 hx
    · intro L L' it it' gg hm hm' hx hx'
      obtain ⟨L0, it0, h0, rfl, rfl⟩ := mem hm
      obtain ⟨L1, it1, h1, rfl, rfl⟩ := mem hm'
      simp only [gf h0] at hx
      simp only [gf h1] at hx'
      rw [c.sep L0 L1 it0 it1 gg h0 h1 hx hx']
    · rw [List.map_map]
      have hnd := c.nd
      have key : ∀ l : AStore, (∀ x ∈ l, g (f x.1) = x.1) → (l.map Prod.fst).Nodup → (l.map (Prod.fst ∘ fun x => (f x.1, renI f x.2))).Nodup := by
        intro l
        induction l with
        | nil => intro _ _; exact List.nodup_nil
        | cons x l ih =>
          intro hx hd
          rw [List.map_cons, List.nodup_cons] at hd ⊢
          refine ⟨fun hm => hd.1 ?_, ih (fun y hy => hx y (List.mem_cons_of_mem _ hy)) hd.2⟩
          obtain ⟨y, hy, q⟩ := List.mem_map.1 hm
          have q : f y.1 = f x.1 := q
          have := hx y (List.mem_cons_of_mem _ hy)
          rw [q, hx x (List.mem_cons_self ..)] at this
          exact List.mem_map.2 ⟨y, hy, this.symm⟩
      exact key H (fun x hx => gf (L := x.1) (it := x.2) hx) hnd

theorem run_sub {H' : AStore} (hs : H'.Sublist H) (h : Run P fn b R k ρ H') : Run P fn b R k ρ H := run_st h fun tmps w ⟨M, φ, ξ, c, e⟩ => ⟨M, φ, ξ, c.sub hs, e⟩
theorem run_perm {H' : AStore} (hs : H.Perm H') (h : Run P fn b R k ρ H') : Run P fn b R k ρ H := run_st h fun tmps w ⟨M, φ, ξ, c, e⟩ => ⟨M, φ, ξ, c.perm hs, e⟩
theorem tmE {ρ' : AEnv} (h1 : trimE (ρ'.map Prod.fst) ρ = some ρ') (h : Run P fn b R k ρ' H) : Run P fn b R k ρ H :=
  run_st h fun tmps w ⟨M, φ, ξ, c, e⟩ => ⟨M, φ, ξ, c, fun t α ht => e t α (trimE_ok h1 t α ht)⟩
/-- A region in the order of the text, nothing forgotten. -/
theorem rgU {c : Code} {ops : Array Oper} {C : List Prop} (ρ' : AEnv) (H' : AStore) (orc : List (Nat × Orc)) (dec : List (Nat × Bool)) (L0 : Nat) (hc : Code.kind c = .region ops false) (h : evOps P n0 fn.ntmps orc dec L0 ops (List.range ops.size) ρ H = some (ρ', H', C)) (hC : AllP C) (hr : Run P fn b R k ρ' H') : Run P fn b R (.code c :: k) ρ H := by
  cases c <;> simp [Code.kind] at hc
  obtain ⟨rfl, rfl⟩ := hc
  exact fun a w g1 g2 g3 => wp_region (run_ops h hC hr a w g1 g2 g3)
theorem rgW {c : Code} {ops : Array Oper} {C : List Prop} (l : AEnv) (H' : AStore) (orc : List (Nat × Orc)) (dec : List (Nat × Bool)) (L0 : Nat) (hc : Code.kind c = .region ops false) (h : evOps P n0 fn.ntmps orc dec L0 ops (List.range ops.size) ρ H = some (l ++ ρ, H', C)) (hC : AllP C) (hr : Run P fn b R k (l ++ ρ) H') : Run P fn b R (.code c :: k) ρ H := rgU _ _ orc dec L0 hc h hC hr
theorem rgV {c : Code} {ops : Array Oper} {C : List Prop} (l : AEnv) (orc : List (Nat × Orc)) (dec : List (Nat × Bool)) (L0 : Nat) (hc : Code.kind c = .region ops false) (h : evOps P n0 fn.ntmps orc dec L0 ops (List.range ops.size) ρ H = some (l ++ ρ, H, C)) (hC : AllP C) (hr : Run P fn b R k (l ++ ρ) H) : Run P fn b R (.code c :: k) ρ H := rgU _ _ orc dec L0 hc h hC hr
end
end Go.Proofs.YtlhbekiplnmolaaDoor
