/- A trace is right just if each one's own part is: the plain law. -/
import Derived.Test.YtlhbekiplnmolaaDoorT6
set_option linter.unusedVariables false
set_option linter.unusedSimpArgs false
set_option linter.unusedVariables false
set_option linter.unusedSimpArgs false
namespace Go.Proofs.YtlhbekiplnmolaaDoor
open Go.RowKit Go.IntWalk

def stp (s : S35.ty) : Int := s.1
theorem ruleAt_mid (a : List S35.ty) (y : S35.ty) (b : List S35.ty) : ruleAt (a ++ y :: b) a.length = if 0 < a.length ∧ stp y < stp (a.getD (a.length - 1) S35.dflt) then 1 else ruleS (ofL a y) y := by
  unfold ruleAt
  have e1 : (a ++ y :: b).getD a.length S35.dflt = y := by simp [List.getD]
  have e2 : (a ++ y :: b).take a.length = a := by simp
  rw [e1, e2]
  by_cases h : 0 < a.length
  · have e3 : (a ++ y :: b).getD (a.length - 1) S35.dflt = a.getD (a.length - 1) S35.dflt := by
      simp only [List.getD]
      rw [List.getElem?_append_left (by omega)]
    rw [e3]
    rfl
  · rw [if_neg (fun g => h g.1), if_neg (fun g => h g.1)]
theorem split_at {l : List S35.ty} {i : Nat} (hi : i < l.length) : ∃ a y b, l = a ++ y :: b ∧ a.length = i := by
  refine ⟨l.take i, l[i], l.drop (i + 1), ?_, by simp; omega⟩
  rw [← List.drop_eq_getElem_cons hi, List.take_append_drop]
theorem ruleAt_app {l m : List S35.ty} {i : Nat} (hi : i < l.length) : ruleAt (l ++ m) i = ruleAt l i := by
  obtain ⟨a, y, b, rfl, rfl⟩ := split_at hi
  rw [List.append_assoc, List.cons_append, ruleAt_mid, ruleAt_mid]
theorem ruleAt_take {l : List S35.ty} {n i : Nat} (hi : i < n) (hn : n ≤ l.length) : ruleAt (l.take n) i = ruleAt l i := by
  have := ruleAt_app (l := l.take n) (m := l.drop n) (i := i) (by simp; omega)
  rw [List.take_append_drop] at this
  exact this.symm
theorem ruleS_range (a : List S35.ty) (s : S35.ty) : 0 ≤ ruleS a s ∧ ruleS a s ≤ 7 := by
  unfold ruleS
  repeat' split
  all_goals omega
theorem ruleAt_range (l : List S35.ty) (i : Nat) : 0 ≤ ruleAt l i ∧ ruleAt l i ≤ 7 := by
  unfold ruleAt
  split
  · omega
  · exact ruleS_range _ _
def Right (l : List S35.ty) : Prop := ∀ i, i < l.length → ruleAt l i = 0
theorem resC_right {l : List S35.ty} (h : Right l) : resC l = (-1, 0) := by
  unfold resC
  rw [find_none.2 fun i hi => by simpa using h i hi]
theorem resC_wrong {l : List S35.ty} {i : Nat} (hi : i < l.length) (h : ruleAt l i ≠ 0) (hb : ∀ j, j < i → ruleAt l j = 0) : resC l = ((i : Int), ruleAt l i) := by
  unfold resC
  have : (List.range l.length).find? (fun i => ruleAt l i != 0) = some i := by
    rw [List.find?_range_eq_some]
    exact ⟨bne_iff_ne.2 h, by simpa using hi, fun j hj => by simpa using hb j hj⟩
  rw [this]
theorem first_wrong (l : List S35.ty) : Right l ∨ ∃ i, i < l.length ∧ ruleAt l i ≠ 0 ∧ ∀ j, j < i → ruleAt l j = 0 := by
  cases h : (List.range l.length).find? (fun i => ruleAt l i != 0) with
  | none => exact .inl fun i hi => by simpa using find_none.1 h i hi
  | some i =>
    rw [List.find?_range_eq_some] at h
    exact .inr ⟨i, by simpa using h.2.1, bne_iff_ne.1 h.1, fun j hj => by simpa using h.2.2 j hj⟩
theorem right_steps {l : List S35.ty} (h : Right l) : l.Pairwise fun a b => stp a ≤ stp b := by
  rw [List.pairwise_iff_getElem]
  intro i j hi hj hij
  have key : ∀ k, i + k < l.length → ∀ hk : i + k < l.length, stp l[i] ≤ stp (l[i + k]'hk) := by
    intro k
    induction k with
    | zero => intro _ _; exact Int.le_refl _
    | succ k ih =>
      intro h1 h2
      have h3 := ih (by omega) (by omega)
      have h4 := h (i + (k + 1)) h1
      unfold ruleAt at h4
      have e1 : l.getD (i + (k + 1)) S35.dflt = l[i + (k + 1)] := by simp [List.getD, List.getElem?_eq_getElem h1]
      have e2 : l.getD (i + (k + 1) - 1) S35.dflt = l[i + k]'(by omega) := by
        have : i + (k + 1) - 1 = i + k := by omega
        rw [this]
        simp [List.getD, List.getElem?_eq_getElem (show i + k < l.length by omega)]
      rw [e1, e2] at h4
      by_cases q : stp l[i + (k + 1)] < stp (l[i + k]'(by omega))
      · rw [if_pos ⟨by omega, q⟩] at h4; exact absurd h4 (by decide)
      · omega
  have := key (j - i) (by omega) (by omega)
  have e : i + (j - i) = j := by omega
  simp only [e] at this
  exact this
theorem right_own {l : List S35.ty} (h : Right l) (x : S35.ty) : Right (ofL l x) := by
  intro i hi
  obtain ⟨a', y, b', e, rfl⟩ := split_at hi
  rw [e, ruleAt_mid]
  unfold ofL at e
  rw [List.filter_eq_append_iff] at e
  obtain ⟨l1, l2, rfl, e1, e2⟩ := e
  rw [List.filter_eq_cons_iff] at e2
  obtain ⟨m1, m2, rfl, hm, hy, e3⟩ := e2
  have em : m1.filter (fun s => isOf s x) = [] := by
    rw [List.filter_eq_nil_iff]; exact hm
  have ea : ofL (l1 ++ m1) x = a' := by unfold ofL; rw [List.filter_append, e1, em, List.append_nil]
  have hw : whoS y = whoS x := isOf_iff.1 hy
  have eo : ofL a' y = ofL (l1 ++ m1) y := by
    rw [← ea]
    unfold ofL
    rw [List.filter_filter]
    congr 1
    funext s
    unfold isOf
    rw [hw, Bool.and_self]
  have hr := h (l1 ++ m1).length (by simp)
  rw [← List.append_assoc, ruleAt_mid] at hr
  have hs := right_steps h
  rw [← List.append_assoc, List.pairwise_append] at hs
  have hno : ¬ (0 < a'.length ∧ stp y < stp (a'.getD (a'.length - 1) S35.dflt)) := by
    rintro ⟨h1, h2⟩
    have hz : a'.getD (a'.length - 1) S35.dflt ∈ a' := getD_mem (by omega)
    have hz2 : a'.getD (a'.length - 1) S35.dflt ∈ l1 ++ m1 := by
      rw [← ea] at hz ⊢
      exact (List.mem_filter.1 hz).1
    have := hs.2.2 _ hz2 y (List.mem_cons_self ..)
    omega
  rw [if_neg hno, eo]
  split at hr
  · exact absurd hr (by decide)
  · exact hr
set_option maxHeartbeats 1000000 in
theorem l_TraceBegins {x0 x1 : List S35.ty} (h0 : LSm x0) (h1 : LSm x1) : F_congresslaw26_TraceBegins x0 x1 = some true := by
  unfold F_congresslaw26_TraceBegins
  rw [l_fixed]
  by_cases hg : 100 < x0.length ∨ 100 < x1.length
  · have e2 : (show Option Bool from (some true).bind fun t7 => (if (!t7) = true then some true else if (decide (((List.length x0 : Nat) : Int) > 100)) = true then some true else some (decide (((List.length x1 : Nat) : Int) > 100)))) = some true := by
      rw [Option.bind_some, if_neg (by decide)]
      rcases hg with a | b
      · rw [if_pos (decide_eq_true (by omega))]
      · split
        · rfl
        · rw [decide_eq_true (by omega)]
    rw [e2]
    rfl
  · have n0 : x0.length ≤ 100 := by omega
    have n1 : x1.length ≤ 100 := by omega
    have e2 : (show Option Bool from (some true).bind fun t7 => (if (!t7) = true then some true else if (decide (((List.length x0 : Nat) : Int) > 100)) = true then some true else some (decide (((List.length x1 : Nat) : Int) > 100)))) = some false := by
      rw [Option.bind_some, if_neg (by decide), if_neg (by rw [decide_eq_true_eq]; omega), decide_eq_false (by omega)]
    have k0 := h0.lok (by omega)
    have k1 := h1.lok (by omega)
    have k2 : LOk (x0 ++ x1) := ⟨by rw [List.length_append]; omega, fun s hs => (List.mem_append.1 hs).elim (k0.o s) (k1.o s)⟩
    rw [e2, Option.bind_some, if_neg (by decide), f_checkT k0, Option.bind_some, if_pos (apOk_s (by omega) (by omega)), if_pos (apOk_s (by rw [List.nil_append]; omega) (by rw [List.nil_append]; omega)), List.nil_append, f_checkT k2, Option.bind_some]
    rcases first_wrong x0 with hr | ⟨i, hi, hw, hb⟩
    · rw [resC_right hr]
      rw [if_neg (by decide)]
      have hl : loopO (F_congresslaw26_TraceBegins_b3 x0) 0 = some (.inr ()) := by
        refine loop_to (f := fun j => (j : Int)) (n := x0.length) (fun j hj => ?_) ?_
        · unfold F_congresslaw26_TraceBegins_b3
          have g : 0 ≤ (j : Int) ∧ (j : Int) < ((x0.length : Nat) : Int) := ⟨by omega, by omega⟩
          have hw : IntKind.wrap .i64 ((j : Int) + 1) = ((j + 1 : Nat) : Int) := by rw [wr (by omega)]; omega
          rw [if_pos (decide_eq_true g.2), if_pos g, f_ofT k0.n, Option.bind_some, f_checkT (k0.sub (show (ofL x0 (x0.getD (Int.toNat (j : Int)) S35.dflt)).Sublist x0 from List.filter_sublist)), resC_right (right_own hr _), Option.bind_some, if_neg (by decide)]
          by_cases h : 0 < j
          · have hw1 : IntKind.wrap .i64 ((j : Int) - 1) = ((j - 1 : Nat) : Int) := by rw [wr (by omega)]; omega
            have hp := right_steps hr
            rw [List.pairwise_iff_getElem] at hp
            have h3 := hp (j - 1) j (by omega) hj (by omega)
            have e4 : x0.getD (Int.toNat (j : Int)) S35.dflt = x0[j] := by simp [List.getD, List.getElem?_eq_getElem hj]
            have e5 : x0.getD (Int.toNat ((j - 1 : Nat) : Int)) S35.dflt = x0[j - 1] := by simp [List.getD, List.getElem?_eq_getElem (show j - 1 < x0.length by omega)]
            have e6 : decide ((x0[j]).1 < (x0[j - 1]).1) = false := decide_eq_false (show ¬ (stp x0[j] < stp x0[j - 1]) by omega)
            rw [if_pos (decide_eq_true (by omega)), if_pos g, hw1, if_pos ⟨by omega, by omega⟩, e4, e5, e6, Option.bind_some, if_neg (by decide), hw]
          · rw [if_neg (by rw [decide_eq_true_eq]; omega), Option.bind_some, if_neg (by decide), hw]
        · unfold F_congresslaw26_TraceBegins_b3
          rw [if_neg (by simp)]
      rw [hl, Option.bind_some]
      rcases first_wrong (x0 ++ x1) with hr2 | ⟨i, hi, hw, hb⟩
      · rw [resC_right hr2]; rfl
      · rw [resC_wrong hi hw hb]
        have hge : x0.length ≤ i := by
          by_cases q : i < x0.length
          · rw [ruleAt_app q] at hw; exact absurd (hr i q) hw
          · omega
        show Option.bind (if ((0 : Int) == 0) = true then if ((i : Int) == -1) = true then some true else some (decide ((i : Int) ≥ ((List.length x0 : Nat) : Int))) else some false) (fun r => some r) = _
        rw [if_pos (by decide)]
        split
        · rfl
        · rw [decide_eq_true (by omega)]; rfl
    · have hi2 : i < (x0 ++ x1).length := by rw [List.length_append]; omega
      have r1 := resC_wrong hi hw hb
      have r2 : resC (x0 ++ x1) = ((i : Int), ruleAt x0 i) := by
        rw [resC_wrong hi2 (by rw [ruleAt_app hi]; exact hw) (fun j hj => by rw [ruleAt_app (by omega)]; exact hb j hj), ruleAt_app hi]
      have r3 : resC (x0.take i) = (-1, 0) := resC_right fun j hj => by
        have hj : j < i := by simp at hj; omega
        rw [ruleAt_take hj (by omega)]; exact hb j hj
      have ed : List.drop 0 (List.take (Int.toNat (i : Int)) x0) = x0.take i := by simp
      have rr := ruleAt_range x0 i
      rw [r1, r2]
      simp only []
      rw [if_pos (decide_eq_true (by omega)), if_pos ⟨by omega, by omega, by simp; omega⟩, ed, f_checkT (k0.sub (List.take_sublist _ _)), r3, Option.bind_some]
      have c1 : ((i : Int) == (i : Int)) = true := by simp
      have c2 : (ruleAt x0 i == ruleAt x0 i) = true := by simp
      have c3 : decide (ruleAt x0 i ≥ 1) = true := decide_eq_true (by omega)
      have c4 : decide (ruleAt x0 i ≤ 7) = true := decide_eq_true (by omega)
      rw [if_pos c1, if_pos c2, if_pos (by decide), if_pos c3, c4]
      rfl
end Go.Proofs.YtlhbekiplnmolaaDoor
