/- The machine's side, told once: a part of what is held, read and written. -/
import Derived.Test.YtlhbekiplnmolaaDoorE0
set_option linter.unusedVariables false
set_option linter.unusedSimpArgs false
namespace Go.Proofs.YtlhbekiplnmolaaDoor
open Go.RowKit

section
variable {P : Program} {φ : Nat → Value} {M : Fz}

theorem RepL_split {α : Type} {R : List Value → α → Prop} {k : Nat} (hl : ∀ c x, R c x → c.length = k) : ∀ {vs : List Value} {xs : List α} {j : Nat} {d : α}, RepL R vs xs → j < xs.length →
    ∃ pre c post, vs = pre ++ c ++ post ∧ pre.length = j * k ∧ R c (xs.getD j d) ∧ ∀ c' y, R c' y → RepL R (pre ++ c' ++ post) (xs.set j y)
  | vs, x :: xs, 0, d, ⟨c, r, e, h1, h2⟩, _ => ⟨[], c, r, by simpa using e, by simp, by simpa using h1, fun c' y hy => ⟨c', r, by simp, hy, h2⟩⟩
  | vs, x :: xs, j + 1, d, ⟨c, r, e, h1, h2⟩, h => by
    obtain ⟨pre, m, post, rfl, e2, h3, h4⟩ := RepL_split hl (d := d) h2 (by simpa using h)
    refine ⟨c ++ pre, m, post, by simp [e], ?_, by simpa using h3, fun c' y hy => ⟨c, pre ++ c' ++ post, by simp, h1, h4 c' y hy⟩⟩
    rw [List.length_append, hl c x h1, e2, Nat.succ_mul, Nat.add_comm]
  | vs, [], j, d, _, h => by simp at h

theorem getP_fixed : ∀ {s : Sh} {x : s.ty} {p : Path} {v : TV}, s.fixed = true → getP s x p = some v → v.1.fixed = true := by
  intro s
  induction s with
  | st s ih =>
    intro x p v hf h
    cases p with
    | nil => simp only [getP, Option.some.injEq] at h; subst h; exact hf
    | cons q p => cases q <;> simp only [getP, reduceCtorEq] at h; exact ih hf h
  | prod a b iha ihb =>
    intro x p v hf h
    have hf' := hf
    simp only [Sh.fixed, Bool.and_eq_true] at hf'
    cases p with
    | nil => simp only [getP, Option.some.injEq] at h; subst h; exact hf
    | cons q p =>
      cases q <;> simp only [getP, reduceCtorEq] at h
      · exact iha hf'.1 h
      · exact ihb hf'.2 h
  | arr n s ih =>
    intro x p v hf h
    cases p with
    | nil => simp only [getP, Option.some.injEq] at h; subst h; exact hf
    | cons q p => cases q <;> simp only [getP, reduceCtorEq] at h; exact ih hf h
  | lst s ih => intro x p v hf; simp [Sh.fixed] at hf
  | _ =>
    intro x p v hf h
    cases p with
    | nil => simp only [getP, Option.some.injEq] at h; subst h; exact hf
    | cons q p => simp only [getP, reduceCtorEq] at h

/-- A part, with what it takes to write it. -/
theorem rep_get : ∀ {s : Sh} {cs : List Value} {x : s.ty} {p : Path} {v : TV}, (s.fixed = true ∨ ∃ t, s = .lst t ∧ t.fixed = true) → RepC P φ s M cs x → getP s x p = some v → okP s x p →
    ∃ pre c post, cs = pre ++ c ++ post ∧ pre.length = offP s p ∧ RepC P φ v.1 M c v.2 ∧
      ∀ (c' : List Value) (u : TV) (r : TV), c'.length = c.length → RepC P φ u.1 M c' u.2 → setP s x p u = some r → RepC P φ r.1 M (pre ++ c' ++ post) r.2 := by
  intro s
  induction s with
  | st s ih =>
    intro cs x p v hf h hg ho
    cases p with
    | nil =>
      simp only [getP, Option.some.injEq] at hg; subst hg
      exact ⟨[], cs, [], by simp, rfl, h, fun c' u r _ hu hs => by simp only [setP, Option.some.injEq] at hs; subst hs; simpa using hu⟩
    | cons q p =>
      cases q <;> simp only [getP, reduceCtorEq] at hg
      have hf' : s.fixed = true := hf.elim (fun hf => hf) fun ⟨t, e, _⟩ => by cases e
      obtain ⟨pre, c, post, h1, h2, h3, h4⟩ := ih (.inl hf') h hg ho
      refine ⟨pre, c, post, h1, h2, h3, fun c' u r hl hu hs => ?_⟩
      simp only [setP, Option.map_eq_some_iff] at hs
      obtain ⟨r', hs, rfl⟩ := hs
      exact h4 c' u r' hl hu hs
  | prod a b iha ihb =>
    intro cs x p v hf h hg ho
    have hf' : a.fixed = true ∧ b.fixed = true := hf.elim (fun hf => by simpa [Sh.fixed] using hf) fun ⟨t, e, _⟩ => by cases e
    cases p with
    | nil =>
      simp only [getP, Option.some.injEq] at hg; subst hg
      exact ⟨[], cs, [], by simp, rfl, h, fun c' u r _ hu hs => by simp only [setP, Option.some.injEq] at hs; subst hs; simpa using hu⟩
    | cons q p =>
      obtain ⟨c1, c2, rfl, g1, g2⟩ := h
      cases q <;> simp only [getP, reduceCtorEq] at hg
      · obtain ⟨pre, c, post, rfl, h2, h3, h4⟩ := iha (.inl hf'.1) g1 hg ho
        refine ⟨pre, c, post ++ c2, by simp, h2, h3, fun c' u r hl hu hs => ?_⟩
        simp only [setP, Option.map_eq_some_iff] at hs
        obtain ⟨r', hs, rfl⟩ := hs
        exact ⟨pre ++ c' ++ post, c2, by simp, h4 c' u r' hl hu hs, g2⟩
      · obtain ⟨pre, c, post, rfl, h2, h3, h4⟩ := ihb (.inl hf'.2) g2 hg ho
        refine ⟨c1 ++ pre, c, post, by simp, ?_, h3, fun c' u r hl hu hs => ?_⟩
        · rw [List.length_append, h2, rep_len hf'.1 g1]; rfl
        · simp only [setP, Option.map_eq_some_iff] at hs
          obtain ⟨r', hs, rfl⟩ := hs
          exact ⟨c1, pre ++ c' ++ post, by simp, g1, h4 c' u r' hl hu hs⟩
  | arr n s ih =>
    intro cs x p v hf h hg ho
    have hf' : s.fixed = true := hf.elim (fun hf => hf) fun ⟨t, e, _⟩ => by cases e
    cases p with
    | nil =>
      simp only [getP, Option.some.injEq] at hg; subst hg
      exact ⟨[], cs, [], by simp, rfl, h, fun c' u r _ hu hs => by simp only [setP, Option.some.injEq] at hs; subst hs; simpa using hu⟩
    | cons q p =>
      cases q <;> simp only [getP, reduceCtorEq] at hg
      rename_i k
      obtain ⟨hn, hx⟩ := h
      obtain ⟨hk, ho⟩ := ho
      obtain ⟨pre, m, post, rfl, e2, h3, h4⟩ := RepL_split (fun c y hc => rep_len hf' hc) (d := s.dflt) hx (Nat.lt_of_lt_of_eq hk hn.symm)
      obtain ⟨pre2, c, post2, rfl, g2, g3, g4⟩ := ih (.inl hf') h3 hg ho
      refine ⟨pre ++ pre2, c, post2 ++ post, by simp, by rw [List.length_append, e2, g2]; rfl, g3, fun c' u r hl hu hs => ?_⟩
      simp only [setP] at hs
      split at hs
      · rename_i r' hr'
        split at hs
        · rename_i he
          obtain ⟨r1, r2⟩ := r'
          simp only at he
          subst he
          simp only [Option.some.injEq] at hs
          subst hs
          refine ⟨by simp [hn], ?_⟩
          have := h4 _ _ (g4 c' u _ hl hu hr')
          simpa using this
        · cases hs
      · cases hs
  | lst s ih =>
    intro cs x p v hf h hg ho
    have hf' : s.fixed = true := hf.elim (fun hf => by simp [Sh.fixed] at hf) fun ⟨t, e, ht⟩ => by cases e; exact ht
    cases p with
    | nil =>
      simp only [getP, Option.some.injEq] at hg; subst hg
      exact ⟨[], cs, [], by simp, rfl, h, fun c' u r _ hu hs => by simp only [setP, Option.some.injEq] at hs; subst hs; simpa using hu⟩
    | cons q p =>
      cases q <;> simp only [getP, reduceCtorEq] at hg
      rename_i k
      obtain ⟨hk, ho⟩ := ho
      obtain ⟨pre, m, post, rfl, e2, h3, h4⟩ := RepL_split (fun c y hc => rep_len hf' hc) (d := s.dflt) h hk
      obtain ⟨pre2, c, post2, rfl, g2, g3, g4⟩ := ih (.inl hf') h3 hg ho
      refine ⟨pre ++ pre2, c, post2 ++ post, by simp, by rw [List.length_append, e2, g2]; rfl, g3, fun c' u r hl hu hs => ?_⟩
      simp only [setP] at hs
      split at hs
      · rename_i r' hr'
        split at hs
        · rename_i he
          obtain ⟨r1, r2⟩ := r'
          simp only at he
          subst he
          simp only [Option.some.injEq] at hs
          subst hs
          have := h4 _ _ (g4 c' u _ hl hu hr')
          have e : pre ++ pre2 ++ c' ++ (post2 ++ post) = pre ++ (pre2 ++ c' ++ post2) ++ post := by simp
          rw [e]
          exact this
        · cases hs
      · cases hs
  | _ =>
    intro cs x p v hf h hg ho
    cases p with
    | nil =>
      simp only [getP, Option.some.injEq] at hg; subst hg
      exact ⟨[], cs, [], by simp, rfl, h, fun c' u r _ hu hs => by simp only [setP, Option.some.injEq] at hs; subst hs; simpa using hu⟩
    | cons q p => simp only [getP, reduceCtorEq] at hg
end
end Go.Proofs.YtlhbekiplnmolaaDoor
