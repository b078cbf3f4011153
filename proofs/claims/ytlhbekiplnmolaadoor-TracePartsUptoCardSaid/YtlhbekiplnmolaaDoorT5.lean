/- The checker of a trace finds what the reference's rule finds. -/
import Derived.Test.YtlhbekiplnmolaaDoorT4
set_option linter.unusedVariables false
set_option linter.unusedSimpArgs false
set_option linter.unusedVariables false
set_option linter.unusedSimpArgs false
namespace Go.Proofs.YtlhbekiplnmolaaDoor
open Go.RowKit Go.IntWalk

structure RC (c : P68.ty) (a : List S35.ty) : Prop where
  some' : c.2.1 = (lastC a).1
  last : (lastC a).1 = true → c.2.2.1 = (lastC a).2 ∧ c.1 = (lastC a).2
  high : ∀ x ∈ a, Sg.kind x = 1 → (lastC a).1 = true ∧ cmpId (Sg.conf x) (lastC a).2 ≤ 0
  lastm : (lastC a).1 = true → ∃ x ∈ a, Sg.kind x = 1 ∧ Sg.conf x = (lastC a).2
  view1 : ∀ x ∈ a, Sg.kind x = 2 → ∃ n : Int, lookM S27 (Sg.conf x) c.2.2.2.1 = some n ∧ Sg.num x ≤ n
  view2 : ∀ k (n : Int), lookM S27 k c.2.2.2.1 = some n → ∃ x ∈ a, Sg.kind x = 2 ∧ Sg.conf x = k ∧ Sg.num x = n
  msg1 : ∀ x ∈ a, Sg.kind x = 3 → ∃ n : Int, lookM S77 (Sg.msg x) c.2.2.2.2 = some n ∧ 0 < n
  msg2 : ∀ k (n : Int), lookM S77 k c.2.2.2.2 = some n → 0 < n ∧ n ≤ 1 ∧ ∃ x ∈ a, Sg.kind x = 3 ∧ Sg.msg x = k
  len : c.2.2.2.2.length ≤ a.length
theorem lastC_snoc (a : List S35.ty) (s : S35.ty) : lastC (a ++ [s]) = if Sg.kind s == 1 then (true, Sg.conf s) else lastC a := by
  unfold lastC
  rw [List.foldl_append]
  rfl
theorem rc_nil : RC cz [] where
  some' := rfl
  last := fun h => by cases h
  high := fun x h => by cases h
  lastm := fun h => by cases h
  view1 := fun x h => by cases h
  view2 := fun k n h => by cases h
  msg1 := fun x h => by cases h
  msg2 := fun k n h => by cases h
  len := Nat.le_refl _
theorem eqS27 {x y : S27.ty} : Sh.eqb S27 x y = true ↔ x = y := eqb_iff (s := S27) rfl x y
theorem eqS77 {x y : S77.ty} : Sh.eqb S77 x y = true ↔ x = y := eqb_iff (s := S77) rfl x y
theorem eqS29 {x y : S29.ty} : Sh.eqb S29 x y = true ↔ x = y := eqb_iff (s := S29) rfl x y
theorem low_eq {c : P68.ty} {a : List S35.ty} {s : S35.ty} (r : RC c a) (hk : Sg.kind s = 1) : a.any (pLow s) = (c.2.1 && decide (cmpId (Sg.conf s) c.1 ≤ 0)) := by
  rw [Bool.eq_iff_iff, List.any_eq_true, Bool.and_eq_true, decide_eq_true_eq, r.some']
  constructor
  · rintro ⟨x, hx, h⟩
    unfold pLow at h
    rw [Bool.and_eq_true, Bool.and_eq_true, beq_iff_eq, decide_eq_true_eq] at h
    obtain ⟨h1, h2⟩ := r.high x hx h.1
    refine ⟨h1, ?_⟩
    rw [(r.last h1).2]
    exact cmp_trans (by have := h.2.2; omega) h2
  · rintro ⟨h1, h2⟩
    obtain ⟨x, hx, hk1, he⟩ := r.lastm h1
    refine ⟨x, hx, ?_⟩
    unfold pLow
    rw [(r.last h1).2, ← he] at h2
    rw [Bool.and_eq_true, Bool.and_eq_true, beq_iff_eq, beq_iff_eq, decide_eq_true_eq]
    exact ⟨hk1, hk, by omega⟩
theorem lowN {a : List S35.ty} {s : S35.ty} (hk : Sg.kind s ≠ 1) : a.any (pLow s) = false := by
  rw [List.any_eq_false]
  intro x _
  unfold pLow
  have : (Sg.kind s == 1) = false := by simpa using hk
  simp [this]
theorem view_eq {c : P68.ty} {a : List S35.ty} {s : S35.ty} (r : RC c a) : a.any (pView s) = (hasM S27 (Sg.conf s) c.2.2.2.1 && decide (Sg.num s ≤ getM S27 (Sg.conf s) 0 c.2.2.2.1)) := by
  rw [Bool.eq_iff_iff, List.any_eq_true, Bool.and_eq_true, decide_eq_true_eq, hasM_look, getM_look]
  constructor
  · rintro ⟨x, hx, h⟩
    unfold pView at h
    rw [Bool.and_eq_true, Bool.and_eq_true, beq_iff_eq, decide_eq_true_eq, eqS27] at h
    obtain ⟨n, h1, h2⟩ := r.view1 x hx h.1
    rw [h.2.1] at h1
    rw [h1]
    exact ⟨rfl, by have := h.2.2; show Sg.num s ≤ n; omega⟩
  · rintro ⟨h1, h2⟩
    obtain ⟨n, hn⟩ := Option.isSome_iff_exists.1 h1
    rw [hn] at h2
    have h2 : Sg.num s ≤ n := h2
    obtain ⟨x, hx, e1, e2, e3⟩ := r.view2 _ n hn
    refine ⟨x, hx, ?_⟩
    unfold pView
    rw [Bool.and_eq_true, Bool.and_eq_true, beq_iff_eq, decide_eq_true_eq, eqS27]
    exact ⟨e1, e2, by omega⟩
theorem msg_eq {c : P68.ty} {a : List S35.ty} {s : S35.ty} (r : RC c a) : a.any (pMsg s) = decide (getM S77 (Sg.msg s) 0 c.2.2.2.2 > 0) := by
  have key : ∀ x : S35.ty, pMsg s x = true ↔ Sg.kind x = 3 ∧ Sg.msg x = Sg.msg s := by
    intro x
    unfold pMsg Sg.msg
    rw [Bool.and_eq_true, Bool.and_eq_true, Bool.and_eq_true, beq_iff_eq, beq_iff_eq, eqS27, eqS29]
    simp only [Prod.mk.injEq]
  rw [Bool.eq_iff_iff, List.any_eq_true, decide_eq_true_eq, getM_look]
  constructor
  · rintro ⟨x, hx, h⟩
    obtain ⟨h1, h2⟩ := (key x).1 h
    obtain ⟨n, h3, h4⟩ := r.msg1 x hx h1
    rw [h2] at h3
    rw [h3]
    exact h4
  · intro h
    cases hl : lookM S77 (Sg.msg s) c.2.2.2.2 with
    | none => rw [hl] at h; exact absurd h (by decide)
    | some n =>
      obtain ⟨_, _, x, hx, h1, h2⟩ := r.msg2 _ n hl
      exact ⟨x, hx, (key x).2 ⟨h1, h2⟩⟩

theorem f_view {c : P68.ty} {a : List S35.ty} {s : S35.ty} (r : RC c a) (o : SgSm s) : F_trace_checker_view c s = some (if a.any (pView s) = true then (4, c) else if hasS (Sg.view s) (pieceS s) = false then (5, c) else (0, (c.1, (c.2.1, (c.2.2.1, (updM S27 (Sg.conf s) (Sg.num s) c.2.2.2.1, c.2.2.2.2)))))) := by
  unfold F_trace_checker_view
  have ec : s.2.2.2.2.2.2.2.2.2.2.1 = Sg.conf s := rfl
  have ev : s.2.2.2.2.2.2.2.2.2.2.2.2.2.2 = Sg.view s := rfl
  have en : s.2.2.2.2.2.2.2.2.1 = Sg.num s := rfl
  have e1 : (show Option Bool from if (hasM S27 (Sg.conf s) c.2.2.2.1) = true then some (decide (Sg.num s ≤ (getM S27 (Sg.conf s) 0 c.2.2.2.1))) else some false) = some (a.any (pView s)) := by
    rw [view_eq r]
    cases hasM S27 (Sg.conf s) c.2.2.2.1 <;> rfl
  have hv := o.small
  have hp := piece_len o.ok
  have e2 : (show Option Bool from (F_trace_piece s).bind fun t1 => ((F_strings_HasPrefix (Sg.view s) t1).bind fun t2 => (if (!t2) = true then (F_trace_piece s).bind fun t3 => (if List.length ([32] : Str) + List.length t3 ≤ maxLen then (F_strings_Contains (Sg.view s) (([32] : Str) ++ t3)).bind fun t4 => (some (!t4)) else none) else some false))) = some (!hasS (Sg.view s) (pieceS s)) := by
    rw [f_piece o.ok]
    simp only [Option.bind_some, f_prefix]
    have hc : F_strings_Contains (Sg.view s) (([32] : Str) ++ pieceS s) = some (Lib.contains (Sg.view s) (32 :: pieceS s)) := if_pos (by omega)
    have hl : List.length ([32] : Str) + List.length (pieceS s) ≤ maxLen := by show _ ≤ (9223372036854775807 : Nat); simp; omega
    rw [hc, if_pos hl, has_eq (by simp [pieceS]; omega)]
    cases (decide ((pieceS s).length ≤ (Sg.view s).length) && ((Sg.view s).take (pieceS s).length == pieceS s)) <;> simp
  rw [ec, ev, en]
  rw [e1, e2]
  simp only [Option.bind_some]
  by_cases h1 : a.any (pView s) = true
  · rw [if_pos h1, if_pos h1]
  · rw [if_neg h1, if_neg h1]
    cases hasS (Sg.view s) (pieceS s) <;> rfl

theorem rc_skip {c : P68.ty} {a : List S35.ty} {s : S35.ty} (r : RC c a) (h1 : Sg.kind s ≠ 1) (h2 : Sg.kind s ≠ 2) (h3 : Sg.kind s ≠ 3) : RC c (a ++ [s]) := by
  have e : lastC (a ++ [s]) = lastC a := by rw [lastC_snoc, if_neg (by simpa using h1)]
  have mem : ∀ {x}, x ∈ a ++ [s] → x ∈ a ∨ x = s := fun h => by simpa using h
  have inl : ∀ {x}, x ∈ a → x ∈ a ++ [s] := fun h => List.mem_append_left _ h
  refine ⟨by rw [e]; exact r.some', by rw [e]; exact r.last, ?_, ?_, ?_, ?_, ?_, ?_, ?_⟩
  · rw [e]; intro x hx hk; rcases mem hx with hx | rfl
    · exact r.high x hx hk
    · exact absurd hk h1
  · rw [e]; intro h; obtain ⟨x, hx, h⟩ := r.lastm h; exact ⟨x, inl hx, h⟩
  · intro x hx hk; rcases mem hx with hx | rfl
    · exact r.view1 x hx hk
    · exact absurd hk h2
  · intro k n h; obtain ⟨x, hx, h⟩ := r.view2 k n h; exact ⟨x, inl hx, h⟩
  · intro x hx hk; rcases mem hx with hx | rfl
    · exact r.msg1 x hx hk
    · exact absurd hk h3
  · intro k n h; obtain ⟨p, q, x, hx, h⟩ := r.msg2 k n h; exact ⟨p, q, x, inl hx, h⟩
  · have := r.len; rw [List.length_append]; omega
theorem rc_conf {c : P68.ty} {a : List S35.ty} {s : S35.ty} (r : RC c a) (h1 : Sg.kind s = 1) (hl : (c.2.1 && decide (cmpId (Sg.conf s) c.1 ≤ 0)) = false) : RC (Sg.conf s, (true, (Sg.conf s, c.2.2.2))) (a ++ [s]) := by
  have e : lastC (a ++ [s]) = (true, Sg.conf s) := by rw [lastC_snoc, if_pos (by simpa using h1)]
  have mem : ∀ {x}, x ∈ a ++ [s] → x ∈ a ∨ x = s := fun h => by simpa using h
  have inl : ∀ {x}, x ∈ a → x ∈ a ++ [s] := fun h => List.mem_append_left _ h
  refine ⟨by rw [e], fun _ => by rw [e]; exact ⟨rfl, rfl⟩, ?_, ?_, ?_, ?_, ?_, ?_, ?_⟩
  · rw [e]; intro x hx hk
    refine ⟨rfl, ?_⟩
    rcases mem hx with hx | rfl
    · obtain ⟨g1, g2⟩ := r.high x hx hk
      rw [r.some', g1, Bool.true_and, decide_eq_false_iff_not, (r.last g1).2] at hl
      exact cmp_trans g2 (cmp_total hl)
    · exact cmp_refl _
  · rw [e]; intro _; exact ⟨s, List.mem_append_right _ (List.mem_singleton.2 rfl), h1, rfl⟩
  · intro x hx hk; rcases mem hx with hx | rfl
    · exact r.view1 x hx hk
    · rw [h1] at hk; exact absurd hk (by decide)
  · intro k n h; obtain ⟨x, hx, h⟩ := r.view2 k n h; exact ⟨x, inl hx, h⟩
  · intro x hx hk; rcases mem hx with hx | rfl
    · exact r.msg1 x hx hk
    · rw [h1] at hk; exact absurd hk (by decide)
  · intro k n h; obtain ⟨p, q, x, hx, h⟩ := r.msg2 k n h; exact ⟨p, q, x, inl hx, h⟩
  · have := r.len; rw [List.length_append]; show c.2.2.2.2.length ≤ _; omega
theorem rc_view {c : P68.ty} {a : List S35.ty} {s : S35.ty} (r : RC c a) (h2 : Sg.kind s = 2) (hv : a.any (pView s) = false) : RC (c.1, (c.2.1, (c.2.2.1, (updM S27 (Sg.conf s) (Sg.num s) c.2.2.2.1, c.2.2.2.2)))) (a ++ [s]) := by
  have e : lastC (a ++ [s]) = lastC a := by rw [lastC_snoc, if_neg (by rw [h2]; decide)]
  have mem : ∀ {x}, x ∈ a ++ [s] → x ∈ a ∨ x = s := fun h => by simpa using h
  have inl : ∀ {x}, x ∈ a → x ∈ a ++ [s] := fun h => List.mem_append_left _ h
  refine ⟨by rw [e]; exact r.some', by rw [e]; exact r.last, ?_, ?_, ?_, ?_, ?_, ?_, ?_⟩
  · rw [e]; intro x hx hk; rcases mem hx with hx | rfl
    · exact r.high x hx hk
    · rw [h2] at hk; exact absurd hk (by decide)
  · rw [e]; intro h; obtain ⟨x, hx, h⟩ := r.lastm h; exact ⟨x, inl hx, h⟩
  · intro x hx hk
    show ∃ n : Int, lookM S27 (Sg.conf x) (updM S27 (Sg.conf s) (Sg.num s) c.2.2.2.1) = some n ∧ Sg.num x ≤ n
    rw [look_upd rfl]
    by_cases he : Sh.eqb S27 (Sg.conf x) (Sg.conf s) = true
    · rw [if_pos he]
      refine ⟨_, rfl, ?_⟩
      rcases mem hx with hx | rfl
      · rw [List.any_eq_false] at hv
        have := hv x hx
        unfold pView at this
        rw [he] at this
        simp [hk] at this
        omega
      · exact Int.le_refl _
    · rw [if_neg he]
      rcases mem hx with hx | rfl
      · exact r.view1 x hx hk
      · exact absurd (eqS27.2 rfl) he
  · intro k n h
    have h : lookM S27 k (updM S27 (Sg.conf s) (Sg.num s) c.2.2.2.1) = some n := h
    rw [look_upd rfl] at h
    by_cases he : Sh.eqb S27 k (Sg.conf s) = true
    · rw [if_pos he] at h
      exact ⟨s, List.mem_append_right _ (List.mem_singleton.2 rfl), h2, (eqS27.1 he).symm, Option.some.inj h⟩
    · rw [if_neg he] at h
      obtain ⟨x, hx, h⟩ := r.view2 k n h; exact ⟨x, inl hx, h⟩
  · intro x hx hk; rcases mem hx with hx | rfl
    · exact r.msg1 x hx hk
    · rw [h2] at hk; exact absurd hk (by decide)
  · intro k n h; obtain ⟨p, q, x, hx, h⟩ := r.msg2 k n h; exact ⟨p, q, x, inl hx, h⟩
  · have := r.len; rw [List.length_append]; show c.2.2.2.2.length ≤ _; omega
theorem rc_msg {c : P68.ty} {a : List S35.ty} {s : S35.ty} (r : RC c a) (h3 : Sg.kind s = 3) : RC (c.1, (c.2.1, (c.2.2.1, (c.2.2.2.1, estM (entV S77 (Sg.msg s) 0 c.2.2.2.2).2 1 (entM S77 (Sg.msg s) 0 c.2.2.2.2))))) (a ++ [s]) := by
  have e : lastC (a ++ [s]) = lastC a := by rw [lastC_snoc, if_neg (by rw [h3]; decide)]
  have mem : ∀ {x}, x ∈ a ++ [s] → x ∈ a ∨ x = s := fun h => by simpa using h
  have inl : ∀ {x}, x ∈ a → x ∈ a ++ [s] := fun h => List.mem_append_left _ h
  refine ⟨by rw [e]; exact r.some', by rw [e]; exact r.last, ?_, ?_, ?_, ?_, ?_, ?_, ?_⟩
  · rw [e]; intro x hx hk; rcases mem hx with hx | rfl
    · exact r.high x hx hk
    · rw [h3] at hk; exact absurd hk (by decide)
  · rw [e]; intro h; obtain ⟨x, hx, h⟩ := r.lastm h; exact ⟨x, inl hx, h⟩
  · intro x hx hk; rcases mem hx with hx | rfl
    · exact r.view1 x hx hk
    · rw [h3] at hk; exact absurd hk (by decide)
  · intro k n h; obtain ⟨x, hx, h⟩ := r.view2 k n h; exact ⟨x, inl hx, h⟩
  · intro x hx hk
    show ∃ n : Int, lookM S77 (Sg.msg x) (estM (entV S77 (Sg.msg s) 0 c.2.2.2.2).2 1 (entM S77 (Sg.msg s) 0 c.2.2.2.2)) = some n ∧ 0 < n
    rw [look_est rfl]
    by_cases he : Sh.eqb S77 (Sg.msg x) (Sg.msg s) = true
    · rw [if_pos he]; exact ⟨1, rfl, by decide⟩
    · rw [if_neg he]
      rcases mem hx with hx | rfl
      · exact r.msg1 x hx hk
      · exact absurd (eqS77.2 rfl) he
  · intro k n h
    have h : lookM S77 k (estM (entV S77 (Sg.msg s) 0 c.2.2.2.2).2 1 (entM S77 (Sg.msg s) 0 c.2.2.2.2)) = some n := h
    rw [look_est rfl] at h
    by_cases he : Sh.eqb S77 k (Sg.msg s) = true
    · rw [if_pos he] at h
      have : (1 : Int) = n := Option.some.inj h
      exact ⟨by omega, by omega, s, List.mem_append_right _ (List.mem_singleton.2 rfl), h3, (eqS77.1 he).symm⟩
    · rw [if_neg he] at h
      obtain ⟨p, q, x, hx, h⟩ := r.msg2 k n h; exact ⟨p, q, x, inl hx, h⟩
  · have h1 := r.len
    have h2 := est_len (k := S77) (key := Sg.msg s) (d := (0 : Int)) (u := 1) (l := c.2.2.2.2)
    rw [List.length_append]
    show (estM (entV S77 (Sg.msg s) (0 : Int) c.2.2.2.2).2 1 (entM S77 (Sg.msg s) 0 c.2.2.2.2)).length ≤ _
    rw [List.length_singleton]
    omega

set_option maxHeartbeats 1000000 in
theorem f_check {c : P68.ty} {a : List S35.ty} {s : S35.ty} (r : RC c a) (o : SgSm s) (hn : a.length ≤ 1000) : ∃ c', F_trace_checker_check c s = some (ruleS a s, c') ∧ (ruleS a s = 0 → RC c' (a ++ [s])) := by
  unfold F_trace_checker_check
  have ec : s.2.2.2.2.2.2.2.2.2.2.1 = Sg.conf s := rfl
  have ek : s.2.2.2.2.2.1 = Sg.kind s := rfl
  have em : (Sg.conf s, (s.2.2.2.2.2.2.2.2.2.2.2.2.1, s.2.2.2.2.2.2.2.2.1)) = Sg.msg s := rfl
  simp only [f_cmpT, Option.bind_some]
  rw [ec, ek, em]
  by_cases k1 : Sg.kind s = 1
  · have e1 : (Sg.kind s == 1) = true := by simp [k1]
    have e2 : (if c.2.1 = true then some (decide (cmpId (Sg.conf s) c.1 ≤ 0)) else some false : Option Bool) = some (c.2.1 && decide (cmpId (Sg.conf s) c.1 ≤ 0)) := by
      cases c.2.1 <;> rfl
    rw [if_pos e1, e2, Option.bind_some]
    unfold ruleS
    rw [low_eq r k1]
    cases h : (c.2.1 && decide (cmpId (Sg.conf s) c.1 ≤ 0)) with
    | true => exact ⟨c, rfl, by rw [if_pos rfl]; exact fun h => absurd h (by decide)⟩
    | false =>
      rw [if_neg Bool.false_ne_true, if_neg Bool.false_ne_true, if_neg (by rw [k1]; decide), if_neg (by rw [k1]; decide)]
      exact ⟨_, rfl, fun _ => rc_conf r k1 h⟩
  have e1 : (Sg.kind s == 1) = false := by simp [k1]
  have eb : (if (Sg.kind s == 2) = true then some (Sg.kind s == 2) else some (Sg.kind s == 3) : Option Bool) = some ((Sg.kind s == 2) || (Sg.kind s == 3)) := by
    cases (Sg.kind s == 2) <;> rfl
  rw [if_neg (by rw [e1]; decide), eb, Option.bind_some]
  unfold ruleS
  have hl0 : ¬ a.any (pLow s) = true := by rw [lowN k1]; decide
  rw [if_neg hl0]
  by_cases k2 : Sg.kind s = 2
  · have e2 : (Sg.kind s == 2) = true := by simp [k2]
    rw [if_pos k2, e2, if_pos (by rfl), if_pos rfl, f_view r o, Option.bind_some]
    cases h3 : (lastC a).1 with
    | true =>
      rw [r.some', h3, (r.last h3).1]
      cases h4 : Sh.eqb S27 (Sg.conf s) (lastC a).2 with
      | false => exact ⟨c, rfl, by rw [if_pos ⟨rfl, rfl⟩]; exact fun h => absurd h (by decide)⟩
      | true =>
        simp only [if_true, Bool.not_true, Option.bind_some, Bool.false_eq_true, if_false, true_and, Bool.true_eq_false]
        by_cases hv : a.any (pView s) = true
        · rw [if_pos hv, if_pos hv]; exact ⟨_, rfl, fun h => absurd h (by decide)⟩
        · rw [if_neg hv, if_neg hv]
          rw [Bool.not_eq_true] at hv
          by_cases hh : hasS (Sg.view s) (pieceS s) = false
          · rw [if_pos hh, if_pos hh]; exact ⟨_, rfl, fun h => absurd h (by decide)⟩
          · rw [if_neg hh, if_neg hh]
            refine ⟨_, rfl, fun _ => ?_⟩
            have := rc_view r k2 hv
            rwa [r.some', h3, (r.last h3).1] at this
    | false =>
      rw [r.some', h3]
      simp only [if_true, Option.bind_some, Bool.false_eq_true, if_false, false_and]
      by_cases hv : a.any (pView s) = true
      · rw [if_pos hv, if_pos hv]; exact ⟨_, rfl, fun h => absurd h (by decide)⟩
      · rw [if_neg hv, if_neg hv]
        rw [Bool.not_eq_true] at hv
        by_cases hh : hasS (Sg.view s) (pieceS s) = false
        · rw [if_pos hh, if_pos hh]; exact ⟨_, rfl, fun h => absurd h (by decide)⟩
        · rw [if_neg hh, if_neg hh]
          refine ⟨_, rfl, fun _ => ?_⟩
          have := rc_view r k2 hv
          rwa [r.some', h3] at this
  have e2 : (Sg.kind s == 2) = false := by simp [k2]
  rw [if_neg k2, e2]
  by_cases k3 : Sg.kind s = 3
  · have e3 : (Sg.kind s == 3) = true := by simp [k3]
    have ef : s.2.2.2.2.2.2.2.2.2.2.2.2.1 = Sg.from s := rfl
    have hfin : ∃ c', (if (decide ((getM S77 (Sg.msg s) 0 c.2.2.2.2) > 0)) = true then some (6, c) else if List.length c.2.2.2.2 ≤ maxLen then (if (0 : Int) ≤ (entV S77 (Sg.msg s) 0 c.2.2.2.2).2 ∧ (entV S77 (Sg.msg s) 0 c.2.2.2.2).2 < ((List.length (entM S77 (Sg.msg s) 0 c.2.2.2.2) : Nat) : Int) then (if ((Sg.from s).1 != s.2.2.2.2.2.2.2.2.2.1) = true then some (7, (c.1, (c.2.1, (c.2.2.1, (c.2.2.2.1, estM ((entV S77 (Sg.msg s) 0 c.2.2.2.2).2) (IntKind.wrap .i64 ((getM S77 (Sg.msg s) 0 c.2.2.2.2) + 1)) (entM S77 (Sg.msg s) 0 c.2.2.2.2)))))) else some (0, (c.1, (c.2.1, (c.2.2.1, (c.2.2.2.1, estM ((entV S77 (Sg.msg s) 0 c.2.2.2.2).2) (IntKind.wrap .i64 ((getM S77 (Sg.msg s) 0 c.2.2.2.2) + 1)) (entM S77 (Sg.msg s) 0 c.2.2.2.2))))))) else none) else none : Option (Int × P68.ty))
        = some ((if a.any (pMsg s) = true then 6 else if (Sg.from s).1 ≠ s.2.2.2.2.2.2.2.2.2.1 then 7 else 0), c') ∧ ((if a.any (pMsg s) = true then (6 : Int) else if (Sg.from s).1 ≠ s.2.2.2.2.2.2.2.2.2.1 then 7 else 0) = 0 → RC c' (a ++ [s])) := by
      rw [msg_eq r]
      by_cases hm : getM S77 (Sg.msg s) 0 c.2.2.2.2 > 0
      · have hd : decide (getM S77 (Sg.msg s) 0 c.2.2.2.2 > 0) = true := decide_eq_true hm
        rw [if_pos hd, if_pos hd]
        exact ⟨_, rfl, fun h => absurd h (by decide)⟩
      · have hd : ¬ decide (getM S77 (Sg.msg s) 0 c.2.2.2.2 > 0) = true := by simpa using hm
        have hg : getM S77 (Sg.msg s) 0 c.2.2.2.2 = 0 := by
          rw [getM_look] at hm ⊢
          cases hl : lookM S77 (Sg.msg s) c.2.2.2.2 with
          | none => rfl
          | some n => rw [hl] at hm; exact absurd (r.msg2 _ n hl).1 hm
        have hw : IntKind.wrap .i64 (0 + 1) = 1 := wr (by omega)
        have hlen := r.len
        rw [if_neg hd, if_neg hd, hg, hw, if_pos (by show _ ≤ (9223372036854775807 : Nat); omega), if_pos ent_idx]
        by_cases h8 : (Sg.from s).1 ≠ s.2.2.2.2.2.2.2.2.2.1
        · rw [if_pos h8, if_pos (by simpa using h8)]; exact ⟨_, rfl, fun h => absurd h (by decide)⟩
        · rw [if_neg h8, if_neg (by simpa using h8)]
          exact ⟨_, rfl, fun _ => rc_msg r k3⟩
    rw [if_pos k3, e3, if_pos (by rfl), ef]
    cases h3 : (lastC a).1 with
    | true =>
      cases h4 : Sh.eqb S27 (Sg.conf s) (lastC a).2 with
      | false =>
        have e5 : (if c.2.1 = true then some (!Sh.eqb S27 (Sg.conf s) c.2.2.1) else some false : Option Bool) = some true := by rw [r.some', h3, (r.last h3).1, h4]; rfl
        rw [e5, Option.bind_some, if_pos rfl, if_pos ⟨rfl, rfl⟩]
        exact ⟨c, rfl, fun h => absurd h (by decide)⟩
      | true =>
        have e5 : (if c.2.1 = true then some (!Sh.eqb S27 (Sg.conf s) c.2.2.1) else some false : Option Bool) = some false := by rw [r.some', h3, (r.last h3).1, h4]; rfl
        rw [e5, Option.bind_some, if_neg Bool.false_ne_true, if_neg Bool.false_ne_true, if_neg (show ¬ (true = true ∧ true = false) from fun h => absurd h.2 (by decide))]
        exact hfin
    | false =>
      have e5 : (if c.2.1 = true then some (!Sh.eqb S27 (Sg.conf s) c.2.2.1) else some false : Option Bool) = some false := by rw [r.some', h3]; rfl
      rw [e5, Option.bind_some, if_neg Bool.false_ne_true, if_neg Bool.false_ne_true, if_neg (fun h => absurd h.1 (by decide) : ¬ (false = true ∧ Sh.eqb S27 (Sg.conf s) (lastC a).2 = false))]
      exact hfin
  · have e3 : (Sg.kind s == 3) = false := by simp [k3]
    rw [if_neg k3, e3]
    exact ⟨c, rfl, fun _ => rc_skip r k1 k2 k3⟩
end Go.Proofs.YtlhbekiplnmolaaDoor
