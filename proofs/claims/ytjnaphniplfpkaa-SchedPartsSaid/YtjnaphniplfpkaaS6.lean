/- slices.Compact at uint64 as a plain function; lists that rise. -/
import Derived.Test.YtjnaphniplfpkaaZu
import Derived.Test.YtjnaphniplfpkaaS5
set_option linter.unusedVariables false
set_option linter.unusedSimpArgs false
namespace Go.Proofs.Ytjnaphniplfpkaa
open Go.RowKit Go.Sort Go.IntWalk

def ddGo : Int → List Int → List Int
  | _, [] => []
  | p, y :: l => if y = p then ddGo p l else y :: ddGo y l
def dd : List Int → List Int
  | [] => []
  | x :: l => x :: ddGo x l

theorem dd_pre (l : List Int) : ∀ k, 1 ≤ k → k ≤ l.length → (∀ i, 1 ≤ i → i < k → l.getD i 0 ≠ l.getD (i - 1) 0) → dd l = l.take k ++ ddGo (l.getD (k - 1) 0) (l.drop k) := by
  intro k
  induction k with
  | zero => intro h; omega
  | succ k ih =>
    intro _ hk hd
    cases k with
    | zero =>
      cases l with
      | nil => simp at hk
      | cons x l => simp [dd]
    | succ k =>
      rw [ih (by omega) (by omega) (fun i h1 h2 => hd i h1 (by omega))]
      have hlt : k + 1 < l.length := by omega
      have hg : l.getD (k + 1) 0 = l[k + 1] := by simp [List.getD, List.getElem?_eq_getElem hlt]
      have hne := hd (k + 1) (by omega) (by omega)
      rw [List.drop_eq_getElem_cons hlt, ddGo, if_neg (by rw [← hg]; simpa using hne), List.take_succ_eq_append_getElem hlt, List.append_assoc]
      simp only [Nat.add_sub_cancel, hg, List.singleton_append]

theorem gdd (l : List Int) {i : Nat} (h : i < l.length) : l.drop i = l.getD i 0 :: l.drop (i + 1) := by
  rw [List.drop_eq_getElem_cons h]
  simp [List.getD, List.getElem?_eq_getElem h]

theorem f_compactIn (l : List Int) (hn : l.length ≤ 1152921504606846976) (k0 : Nat) (hk0 : 1 ≤ k0) (hk1 : k0 < l.length) : ∀ (m k2 w : Nat) (c : List Int), l.length - k0 - k2 ≤ m → 1 ≤ k2 → k0 + k2 ≤ l.length → c.length = l.length → 1 ≤ w → w + 1 ≤ k0 + k2 → (∀ i, k0 + k2 ≤ i + 1 → c.getD i 0 = l.getD i 0) →
    dd l = c.take w ++ ddGo (l.getD (k0 + k2 - 1) 0) (l.drop (k0 + k2)) → ∃ (w' : Nat) (c' : List Int), loopO (F_slices_Compact_uint64_uint64_b2 (k0 : Int) l) ((w : Int), (k2 : Int), c) = some ((w' : Int), c') ∧ c'.length = l.length ∧ w' ≤ l.length ∧ dd l = c'.take w' := by
  intro m
  induction m with
  | zero =>
    intro k2 w c hm h1 hk hc hw1 hw hag hdd
    refine ⟨w, c, loopO_end ?_, hc, by omega, ?_⟩
    · simp (disch := omega) only [F_slices_Compact_uint64_uint64_b2, decide_eq_true_eq, Int.toNat_natCast, if_neg]
    · rw [hdd, List.drop_eq_nil_of_le (by omega)]
      simp [ddGo]
  | succ m ih =>
    intro k2 w c hm h1 hk hc hw1 hw hag hdd
    by_cases h : k0 + k2 < l.length
    · have e1 : (k2 : Int) - 1 = ((k2 - 1 : Nat) : Int) := by omega
      have g1 := hag (k0 + k2) (by omega)
      have g2 := hag (k0 + (k2 - 1)) (by omega)
      rw [gdd l h] at hdd
      by_cases he : l.getD (k0 + k2) 0 = l.getD (k0 + (k2 - 1)) 0
      · have eidx : k0 + k2 - 1 = k0 + (k2 - 1) := by omega
        rw [ddGo, if_pos (by rw [eidx]; exact he)] at hdd
        obtain ⟨w', c', i1, i2⟩ := ih (k2 + 1) w c (by omega) (by omega) (by omega) hc hw1 (by omega) (fun i hi => hag i (by omega)) (by
          rw [hdd, eidx, ← he]; rfl)
        refine ⟨w', c', ?_, i2⟩
        rw [← i1]
        refine loopO_go ?_
        simp (disch := omega) only [F_slices_Compact_uint64_uint64_b2, decide_eq_true_eq, Int.toNat_natCast, if_pos, e1, wr, hc, g1, g2]
        rw [if_neg (by simpa using he)]
        rfl
      · have eidx : k0 + k2 - 1 = k0 + (k2 - 1) := by omega
        rw [ddGo, if_neg (by rw [eidx]; exact he)] at hdd
        have hwl : w < c.length := by omega
        obtain ⟨w', c', i1, i2⟩ := ih (k2 + 1) (w + 1) (c.set w (l.getD (k0 + k2) 0)) (by omega) (by omega) (by omega) (by rw [List.length_set]; exact hc) (by omega) (by omega) (fun i hi => by
          rw [← hag i (by omega)]
          simp only [List.getD, List.getElem?_set, if_neg (show ¬ w = i by omega)]) (by
          rw [hdd, List.take_succ_eq_append_getElem (by rw [List.length_set]; exact hwl), List.getElem_set_self, List.append_assoc, List.take_set_of_le (Nat.le_refl w)]
          rfl)
        refine ⟨w', c', ?_, i2⟩
        rw [← i1]
        refine loopO_go ?_
        simp (disch := omega) only [F_slices_Compact_uint64_uint64_b2, decide_eq_true_eq, Int.toNat_natCast, if_pos, e1, wr, hc, g1, g2]
        rw [if_pos (by simpa using he)]
        rfl
    · refine ⟨w, c, loopO_end ?_, hc, by omega, ?_⟩
      · simp (disch := omega) only [F_slices_Compact_uint64_uint64_b2, decide_eq_true_eq, Int.toNat_natCast, if_neg]
      · rw [hdd, List.drop_eq_nil_of_le (by omega)]
        simp [ddGo]

theorem f_compactL (l : List Int) (hn : l.length ≤ 1152921504606846976) : ∀ (m k : Nat), l.length - k ≤ m → 1 ≤ k → k ≤ l.length → (∀ i, 1 ≤ i → i < k → l.getD i 0 ≠ l.getD (i - 1) 0) →
    ∃ q, loopO (F_slices_Compact_uint64_uint64_b1 l) (k : Int) = some q ∧ Sum.elim some (fun _ => some l) q = some (dd l) := by
  intro m
  induction m with
  | zero =>
    intro k hm h1 hk hd
    refine ⟨_, loopO_end (r := .inr ()) ?_, ?_⟩
    · simp (disch := omega) only [F_slices_Compact_uint64_uint64_b1, decide_eq_true_eq, if_neg]
    · have := dd_pre l k h1 hk hd
      rw [List.drop_eq_nil_of_le (by omega), List.take_of_length_le (by omega)] at this
      simp [this, ddGo]
  | succ m ih =>
    intro k hm h1 hk hd
    by_cases h : k < l.length
    · have e1 : (k : Int) - 1 = ((k - 1 : Nat) : Int) := by omega
      by_cases he : l.getD k 0 = l.getD (k - 1) 0
      · have hdd := dd_pre l k h1 hk hd
        rw [gdd l h, ddGo, if_pos he, ← he] at hdd
        obtain ⟨w', c', i1, i2, i3, i4⟩ := f_compactIn l hn k h1 h _ 1 k l (Nat.le_refl _) (Nat.le_refl _) (by omega) rfl h1 (Nat.le_refl _) (fun _ _ => rfl) (by simpa using hdd)
        refine ⟨_, loopO_end (r := .inl (dd l)) ?_, rfl⟩
        have i1' : loopO (F_slices_Compact_uint64_uint64_b2 (k : Int) l) ((k : Int), 1, l) = some ((w' : Int), c') := i1
        simp (disch := omega) only [F_slices_Compact_uint64_uint64_b1, decide_eq_true_eq, Int.toNat_natCast, if_pos, e1, wr]
        rw [if_pos (by simpa using he), i1']
        simp only [Option.bind_some, Int.toNat_natCast]
        have hl1 : (List.take w' c' ++ (List.replicate (List.length c' - w') 0 ++ List.drop (w' + (List.length c' - w')) c')).length = l.length := by
          simp; omega
        rw [if_pos (by omega), hl1, if_pos (by omega), Nat.sub_zero, List.take_append_of_le_length (by simp; omega), List.take_take, Nat.min_self, i4]
      · obtain ⟨q, i1, i2⟩ := ih (k + 1) (by omega) (by omega) (by omega) (fun i h1 h2 => by
          by_cases e : i = k
          · subst e; exact he
          · exact hd i h1 (by omega))
        refine ⟨q, ?_, i2⟩
        rw [← i1]
        refine loopO_go ?_
        simp (disch := omega) only [F_slices_Compact_uint64_uint64_b1, decide_eq_true_eq, Int.toNat_natCast, if_pos, e1, wr]
        rw [if_neg (by simpa using he)]
        rfl
    · refine ⟨_, loopO_end (r := .inr ()) ?_, ?_⟩
      · simp (disch := omega) only [F_slices_Compact_uint64_uint64_b1, decide_eq_true_eq, if_neg]
      · have := dd_pre l k h1 hk hd
        rw [List.drop_eq_nil_of_le (by omega), List.take_of_length_le (by omega)] at this
        simp [this, ddGo]
theorem f_Compact (l : List Int) (hn : l.length ≤ 1152921504606846976) : F_slices_Compact_uint64_uint64 l = some (dd l) := by
  unfold F_slices_Compact_uint64_uint64
  by_cases h : l.length < 2
  · rw [if_pos (by simp; omega)]
    match l, h with
    | [], _ => rfl
    | [x], _ => rfl
  · rw [if_neg (by simp; omega)]
    obtain ⟨q, h1, h2⟩ := f_compactL l hn _ 1 (Nat.le_refl _) (Nat.le_refl _) (by omega) (fun i h1 h2 => by omega)
    have h1' : loopO (F_slices_Compact_uint64_uint64_b1 l) 1 = some q := h1
    rw [h1']
    exact h2

/-! Sorted ascending, without equal neighbours -/
theorem ddGo_spec : ∀ (l : List Int) (p : Int), List.Pairwise (fun x y => x ≤ y) (p :: l) → List.Pairwise (fun x y => x < y) (p :: ddGo p l) ∧ ∀ x, x ∈ p :: ddGo p l ↔ x ∈ p :: l
  | [], p, _ => by simp [ddGo]
  | y :: l, p, h => by
    rw [List.pairwise_cons] at h
    have hl := h.2
    rw [List.pairwise_cons] at hl
    by_cases e : y = p
    · subst e
      rw [ddGo, if_pos rfl]
      have := ddGo_spec l y h.2
      exact ⟨this.1, fun x => by rw [this.2 x]; simp⟩
    · rw [ddGo, if_neg e]
      have := ddGo_spec l y h.2
      have hpy : p < y := by have := h.1 y (by simp); omega
      refine ⟨?_, fun x => ?_⟩
      · rw [List.pairwise_cons]
        refine ⟨fun z hz => ?_, this.1⟩
        have hz' := (this.2 z).1 hz
        rcases List.mem_cons.1 hz' with rfl | hz'
        · exact hpy
        · have := hl.1 z hz'; omega
      · rw [List.mem_cons, this.2 x]; simp
theorem dd_spec (l : List Int) (h : List.Pairwise (fun x y => x ≤ y) l) : List.Pairwise (fun x y => x < y) (dd l) ∧ ∀ x, x ∈ dd l ↔ x ∈ l := by
  cases l with
  | nil => simp [dd]
  | cons x l => exact ddGo_spec l x h

theorem strict_unique : ∀ {l r : List Int}, List.Pairwise (fun x y => x < y) l → List.Pairwise (fun x y => x < y) r → (∀ x, x ∈ l ↔ x ∈ r) → l = r
  | [], [], _, _, _ => rfl
  | [], y :: r, _, _, h => by have := (h y).2 (by simp); cases this
  | x :: l, [], _, _, h => by have := (h x).1 (by simp); cases this
  | x :: l, y :: r, hl, hr, h => by
    rw [List.pairwise_cons] at hl hr
    have e : x = y := by
      have h1 := (h x).1 (by simp)
      have h2 := (h y).2 (by simp)
      rcases List.mem_cons.1 h1 with h1 | h1
      · exact h1
      · rcases List.mem_cons.1 h2 with h2 | h2
        · exact h2.symm
        · have := hl.1 y h2; have := hr.1 x h1; omega
    subst e
    congr 1
    refine strict_unique hl.2 hr.2 fun z => ⟨fun hz => ?_, fun hz => ?_⟩
    · rcases List.mem_cons.1 ((h z).1 (List.mem_cons_of_mem _ hz)) with rfl | hz'
      · have := hl.1 z hz; omega
      · exact hz'
    · rcases List.mem_cons.1 ((h z).2 (List.mem_cons_of_mem _ hz)) with rfl | hz'
      · have := hr.1 z hz; omega
      · exact hz'
end Go.Proofs.Ytjnaphniplfpkaa
