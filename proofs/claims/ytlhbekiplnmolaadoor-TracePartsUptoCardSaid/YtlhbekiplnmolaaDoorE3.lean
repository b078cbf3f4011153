/- The machine's side, told once: memory that is made, written, forgotten. -/
import Derived.Test.YtlhbekiplnmolaaDoorE2
import Derived.Deep.QuietTactic
set_option linter.unusedVariables false
set_option linter.unusedSimpArgs false
namespace Go.Proofs.YtlhbekiplnmolaaDoor
open Go.RowKit

section
variable {P : Program} {n0 : Nat} {b : Base n0} {M : Fz} {φ : Nat → Value} {ξ : Nat → Option Nat} {H : AStore} {w : World} {ρ : AEnv}

def upd {α : Type} (f : Nat → α) (L : Nat) (x : α) : Nat → α := fun l => if l = L then x else f l
theorem upd_same {α : Type} (f : Nat → α) (L : Nat) (x : α) : upd f L x L = x := by simp [upd]
theorem upd_ne {α : Type} {f : Nat → α} {L l : Nat} {x : α} (h : l ≠ L) : upd f L x l = f l := by simp [upd, h]

def storeLabs (H : AStore) : List Nat := H.flatMap fun x => x.1 :: x.2.labs
/-- A label that nothing names yet. -/
def freshB (n0 L : Nat) (ρ : AEnv) (H : AStore) : Bool := Nat.ble n0 L && !(envLabs ρ ++ storeLabs H).any (Nat.beq L)

theorem fresh_env {L : Nat} (h : freshB n0 L ρ H = true) {α : Type} (f : Nat → α) (x : α) : ∀ l ∈ envLabs ρ, upd f L x l = f l := by
  intro l hl
  refine upd_ne ?_
  rintro rfl
  simp only [freshB, Bool.and_eq_true, Bool.not_eq_true'] at h
  have := h.2
  rw [List.any_eq_false] at this
  exact this l (List.mem_append_left _ hl) (by simp)
theorem fresh_store {L : Nat} (h : freshB n0 L ρ H = true) : ∀ l ∈ storeLabs H, l ≠ L := by
  rintro l hl rfl
  simp only [freshB, Bool.and_eq_true, Bool.not_eq_true'] at h
  have := h.2
  rw [List.any_eq_false] at this
  exact this l (List.mem_append_right _ hl) (by simp)
theorem fresh_ge {L : Nat} (h : freshB n0 L ρ H = true) : n0 ≤ L := by
  simp only [freshB, Bool.and_eq_true] at h
  exact Nat.le_of_ble_eq_true h.1

theorem mem_labs {L : Nat} {it : AItem} (h : (L, it) ∈ H) : L ∈ storeLabs H ∧ ∀ l ∈ it.labs, l ∈ storeLabs H :=
  ⟨List.mem_flatMap.2 ⟨_, h, List.mem_cons_self ..⟩, fun l hl => List.mem_flatMap.2 ⟨_, h, List.mem_cons_of_mem _ hl⟩⟩

theorem Core.over' (s : Core P b M φ ξ H w) {w' : World} (hk : ∀ g c, M g = some c → w'.heap[g]? = w.heap[g]?) : Over M w' := ⟨fun g c h => by
  obtain ⟨t, fr, e⟩ := s.over g c h
  exact ⟨t, fr, (hk g c h).trans e⟩, s.over.gl⟩

/-- Only draws. -/
theorem Core.draws (s : Core P b M φ ξ H w) (n : Nat) : Core P b M φ ξ H (w.drewN n) :=
  ⟨s.le, s.same, ⟨s.over.cells, s.over.gl⟩, ⟨s.below.os, s.below.tape, s.below.output, s.below.size, s.below.block⟩, fun L it h => held_kept (Fz.le_refl _) (s.items L it h) fun _ _ => rfl, s.feet, s.sep, s.nd, s.keep⟩

/-- What is known may be forgotten. -/
theorem Core.sub (s : Core P b M φ ξ H w) {H' : AStore} (h : H'.Sublist H) : Core P b M φ ξ H' w :=
  ⟨s.le, s.same, s.over, s.below, fun L it hi => s.items L it (h.subset hi), fun L it g hi => s.feet L it g (h.subset hi), fun L L' it it' g h1 h2 => s.sep L L' it it' g (h.subset h1) (h.subset h2), s.nd.sublist (h.map _), s.keep⟩
theorem Core.perm (s : Core P b M φ ξ H w) {H' : AStore} (h : H.Perm H') : Core P b M φ ξ H' w :=
  ⟨s.le, s.same, s.over, s.below, fun L it hi => s.items L it (h.mem_iff.2 hi), fun L it g hi => s.feet L it g (h.mem_iff.2 hi), fun L L' it it' g h1 h2 => s.sep L L' it it' g (h.mem_iff.2 h1) (h.mem_iff.2 h2), (h.map _).nodup_iff.1 s.nd, s.keep⟩

/-- New memory, one item more. -/
theorem Core.grow (s : Core P b M φ ξ H w) {w' : World} {L : Nat} {u : Value} {o : Option Nat} {it : AItem} (hL : freshB n0 L ρ H = true)
    (hos : w'.os = w.os) (htp : w'.tape = w.tape) (hou : w'.output = w.output) (hsz : w.heap.size ≤ w'.heap.size) (hk : ∀ k, k < w.heap.size → w'.heap[k]? = w.heap[k]?)
    (hit : Held P M (upd φ L u) w' u o it) (ho : ∀ g, o = some g → w.heap.size ≤ g) : Core P b M (upd φ L u) (upd ξ L o) ((L, it) :: H) w' := by
  have hne := fresh_store hL
  have lt : ∀ g c, M g = some c → g < w.heap.size := fun g c h => by
    obtain ⟨t, fr, e⟩ := s.over g c h
    exact (Array.getElem?_eq_some_iff.1 e).1
  have foot : ∀ l i, (l, i) ∈ H → ∀ g, ξ l = some g → g < w.heap.size := fun l i h g hg => held_lt (s.items l i h) g hg
  refine ⟨s.le, s.same, s.over' fun g c h => hk g (lt g c h), s.below.trans ⟨hos, htp, hou, hsz, fun k hkk _ => hk k (Nat.lt_of_lt_of_le hkk s.below.size)⟩, ?_, ?_, ?_, ?_, ?_⟩
  · intro l i hi
    rcases List.mem_cons.1 hi with e | hi
    · simp only [Prod.mk.injEq] at e
      obtain ⟨rfl, rfl⟩ := e
      rw [upd_same, upd_same]
      exact hit
    · have h1 := mem_labs hi
      rw [upd_ne (hne l h1.1), upd_ne (hne l h1.1)]
      exact held_labs (fun x hx => upd_ne (hne x (h1.2 x hx))) (held_kept (Fz.le_refl _) (s.items l i hi) fun g hg => hk g (foot l i hi g hg))
  · intro l i g hi hg
    rcases List.mem_cons.1 hi with e | hi
    · simp only [Prod.mk.injEq] at e
      obtain ⟨rfl, rfl⟩ := e
      rw [upd_same] at hg
      have := ho g hg
      refine ⟨.inl (Nat.le_trans s.below.size this), ?_⟩
      cases hM : M g with
      | none => rfl
      | some c => have := lt g c hM; omega
    · rw [upd_ne (hne l (mem_labs hi).1)] at hg
      exact s.feet l i g hi hg
  · intro l l' i i' g hi hi' hg hg'
    rcases List.mem_cons.1 hi with e | hj <;> rcases List.mem_cons.1 hi' with e' | hj'
    · simp only [Prod.mk.injEq] at e e'
      exact e.1.trans e'.1.symm
    · simp only [Prod.mk.injEq] at e
      rw [e.1, upd_same] at hg
      rw [upd_ne (hne l' (mem_labs hj').1)] at hg'
      have := foot l' i' hj' g hg'
      have := ho g hg
      omega
    · simp only [Prod.mk.injEq] at e'
      rw [e'.1, upd_same] at hg'
      rw [upd_ne (hne l (mem_labs hj).1)] at hg
      have := foot l i hj g hg
      have := ho g hg'
      omega
    · rw [upd_ne (hne l (mem_labs hj).1)] at hg
      rw [upd_ne (hne l' (mem_labs hj').1)] at hg'
      exact s.sep l l' i i' g hj hj' hg hg'
  · rw [List.map_cons, List.nodup_cons]
    refine ⟨fun h => ?_, s.nd⟩
    obtain ⟨x, hx, e⟩ := List.mem_map.1 h
    exact hne x.1 (mem_labs (L := x.1) (it := x.2) hx).1 e
  · intro l hl
    rw [upd_ne (by have := fresh_ge hL; omega)]
    exact s.keep l hl

theorem Core.alloc (s : Core P b M φ ξ H w) {L : Nat} {u : Value} {it : AItem} {c : Array Value} {T : TypeId} (hL : freshB n0 L ρ H = true)
    (hit : Held P M (upd φ L u) (w.alloc (.cells c T)) u (some w.heap.size) it) : Core P b M (upd φ L u) (upd ξ L (some w.heap.size)) ((L, it) :: H) (w.alloc (.cells c T)) :=
  s.grow hL rfl rfl rfl ((Below.refl w.heap.size w).alloc (Nat.le_refl _) (.cells c T)).size ((Below.refl w.heap.size w).alloc (Nat.le_refl _) (.cells c T)).block hit (fun g hg => by cases hg; exact Nat.le_refl _)

/-- One item anew, in its own block. -/
theorem Core.write {H1 H2 : AStore} {L : Nat} {it it' : AItem} (s : Core P b M φ ξ (H1 ++ (L, it) :: H2) w) {w' : World} {g : Nat} (hg : ξ L = some g)
    (hos : w'.os = w.os) (htp : w'.tape = w.tape) (hou : w'.output = w.output) (hsz : w.heap.size ≤ w'.heap.size) (hk : ∀ k, k ≠ g → w'.heap[k]? = w.heap[k]?)
    (hit : Held P M φ w' (φ L) (ξ L) it') : Core P b M φ ξ (H1 ++ (L, it') :: H2) w' := by
  have hm : (L, it) ∈ H1 ++ (L, it) :: H2 := by simp
  have hf := s.feet L it g hm hg
  have cases' : ∀ l i, (l, i) ∈ H1 ++ (L, it') :: H2 → (l = L ∧ i = it') ∨ (l ≠ L ∧ (l, i) ∈ H1 ++ (L, it) :: H2) := by
    intro l i h
    have hn := s.nd
    rw [List.map_append, List.map_cons, List.nodup_append] at hn
    obtain ⟨h1, h2, h3⟩ := hn
    rw [List.nodup_cons] at h2
    rcases List.mem_append.1 h with h | h
    · exact .inr ⟨fun e => h3 l (List.mem_map.2 ⟨_, h, rfl⟩) L (List.mem_cons_self ..) e, List.mem_append_left _ h⟩
    · rcases List.mem_cons.1 h with e | h
      · simp only [Prod.mk.injEq] at e; exact .inl e
      · exact .inr ⟨fun e => h2.1 (e ▸ List.mem_map.2 ⟨_, h, rfl⟩), List.mem_append_right _ (List.mem_cons_of_mem _ h)⟩
  refine ⟨s.le, s.same, s.over' fun k c h => hk k (fun e => by rw [e, hf.2] at h; cases h), s.below.trans ⟨hos, htp, hou, hsz, fun k hkk he => hk k fun e => ?_⟩, ?_, ?_, ?_, ?_, s.keep⟩
  · subst e
    rcases hf.1 with h | h
    · omega
    · exact he h
  · intro l i hi
    rcases cases' l i hi with ⟨rfl, rfl⟩ | ⟨hne, hi⟩
    · exact hit
    · exact held_kept (Fz.le_refl _) (s.items l i hi) fun k hkk => hk k fun e => hne (s.sep l L i it g hi hm (e ▸ hkk) hg)
  · intro l i k hi hkk
    rcases cases' l i hi with ⟨rfl, rfl⟩ | ⟨_, hi⟩
    · exact s.feet l it k hm hkk
    · exact s.feet l i k hi hkk
  · intro l l' i i' k hi hi' h1 h2
    rcases cases' l i hi with ⟨rfl, rfl⟩ | ⟨_, hj⟩ <;> rcases cases' l' i' hi' with ⟨rfl, rfl⟩ | ⟨_, hj'⟩
    · rfl
    · exact s.sep _ _ it i' k hm hj' h1 h2
    · exact s.sep _ _ i it k hj hm h1 h2
    · exact s.sep _ _ i i' k hj hj' h1 h2
  · have := s.nd
    simpa using this

theorem St.draws {tmps : Array Value} (h : St P b ρ H tmps w) (n : Nat) : St P b ρ H tmps (w.drewN n) := by
  obtain ⟨M, φ, ξ, h1, h2⟩ := h
  exact ⟨M, φ, ξ, h1.draws n, h2⟩

theorem EnvR.put {tmps : Array Value} (h : EnvR P M φ ρ tmps) (d : Nat) (α : AVal) (v : Value) (hd : d < tmps.size) (hr : RelV P M φ α v) : EnvR P M φ ((d, α) :: ρ) (tmps.setIfInBounds d v) := by
  intro t β ht
  simp only [look] at ht
  by_cases e : d = t
  · subst e
    simp at ht
    subst ht
    exact ⟨v, by simp [hd], hr⟩
  · have : Nat.beq d t = false := by
      cases hb : Nat.beq d t with
      | false => rfl
      | true => exact absurd (Nat.eq_of_beq_eq_true hb) e
    rw [this] at ht
    simp at ht
    obtain ⟨u, h1, h2⟩ := h t β ht
    exact ⟨u, by simp [e, h1], h2⟩
end
end Go.Proofs.YtlhbekiplnmolaaDoor
