/- The library's sort at uint64 as plain functions: partial insertion, the pivot. -/
import Derived.Test.YtjnaphniplfpkaaS2
import Derived.Sort.AssemblyPlain
import Derived.Laws.Bits64b
set_option linter.unusedVariables false
set_option linter.unusedSimpArgs false
namespace Go.Proofs.Ytjnaphniplfpkaa
open Go.RowKit Go.Sort Go.IntWalk

theorem f_shiftDownL (n : Nat) (hn : n ≤ 1152921504606846976) : ∀ (j : Nat) (d : Array Int), j < n → d.size = n → loopO F_slices_partialInsertionSortOrdered_uint64_b5 ((j : Int), d.toList) = some (shiftDown ltInt j d).toList ∧ (shiftDown ltInt j d).size = n
  | 0, d, hj, hd => by
    refine ⟨loopO_end ?_, hd⟩
    simp (disch := omega) only [F_slices_partialInsertionSortOrdered_uint64_b5, decide_eq_true_eq, if_neg]
    rfl
  | j + 1, d, hj, hd => by
    have hl : d.toList.length = n := by simpa using hd
    have e1 : ((j + 1 : Nat) : Int) - 1 = (j : Int) := by omega
    rw [shiftDown]
    cases h : ltInt d[j + 1]! d[j]! with
    | false =>
      refine ⟨loopO_end ?_, hd⟩
      simp (disch := omega) only [F_slices_partialInsertionSortOrdered_uint64_b5, decide_eq_true_eq, if_pos, e1, wr, Int.toNat_natCast, gd, sw, lset, hl, f_less, h, Option.bind_some]
      rfl
    | true =>
      have ih := f_shiftDownL n hn j (swp d (j + 1) j) (by omega) (by rw [size_swp]; exact hd)
      simp only [Bool.not_true, Bool.false_eq_true, if_false]
      refine ⟨?_, ih.2⟩
      rw [← ih.1]
      refine loopO_go ?_
      simp (disch := omega) only [F_slices_partialInsertionSortOrdered_uint64_b5, decide_eq_true_eq, if_pos, e1, wr, Int.toNat_natCast, gd, sw, lset, hl, f_less, h, Option.bind_some]
      rfl
theorem f_shiftUpL (b n : Nat) (hn : n ≤ 1152921504606846976) (hb : b ≤ n) : ∀ (m j : Nat) (d : Array Int), b - j ≤ m → 1 ≤ j → j ≤ n → d.size = n → loopO (F_slices_partialInsertionSortOrdered_uint64_b4 (b : Int)) ((j : Int), d.toList) = some (shiftUp ltInt b j d).toList ∧ (shiftUp ltInt b j d).size = n := by
  intro m
  induction m with
  | zero =>
    intro j d hm h1 hj hd
    rw [shiftUp, if_neg (by omega)]
    refine ⟨loopO_end ?_, hd⟩
    simp (disch := omega) only [F_slices_partialInsertionSortOrdered_uint64_b4, decide_eq_true_eq, if_neg]
  | succ m ih =>
    intro j d hm h1 hj hd
    have hl : d.toList.length = n := by simpa using hd
    have e1 : (j : Int) - 1 = ((j - 1 : Nat) : Int) := by omega
    rw [shiftUp]
    by_cases hjb : j < b
    · rw [if_pos hjb]
      cases h : ltInt d[j]! d[j - 1]! with
      | false =>
        refine ⟨loopO_end ?_, hd⟩
        simp (disch := omega) only [F_slices_partialInsertionSortOrdered_uint64_b4, decide_eq_true_eq, if_pos, e1, wr, Int.toNat_natCast, gd, sw, lset, hl, f_less, h, Option.bind_some]
        rfl
      | true =>
        have ih := ih (j + 1) (swp d j (j - 1)) (by omega) (by omega) (by omega) (by rw [size_swp]; exact hd)
        simp only [Bool.not_true, Bool.false_eq_true, if_false]
        refine ⟨?_, ih.2⟩
        rw [← ih.1]
        refine loopO_go ?_
        simp (disch := omega) only [F_slices_partialInsertionSortOrdered_uint64_b4, decide_eq_true_eq, if_pos, e1, wr, Int.toNat_natCast, gd, sw, lset, hl, f_less, h, Option.bind_some]
        rfl
    · rw [if_neg hjb]
      refine ⟨loopO_end ?_, hd⟩
      simp (disch := omega) only [F_slices_partialInsertionSortOrdered_uint64_b4, decide_eq_true_eq, if_neg]
theorem f_scanSortedL (s1 : Int × Int × List Int) (b n : Nat) (d : Array Int) (hs : s1.2.2 = d.toList) (hn : n ≤ 1152921504606846976) (hb : b ≤ n) (hd : d.size = n) : ∀ (m i : Nat), b - i ≤ m → 1 ≤ i → i ≤ b → loopO (F_slices_partialInsertionSortOrdered_uint64_b2 s1 (b : Int)) (i : Int) = some ((scanSorted ltInt d b i : Nat) : Int) ∧ i ≤ scanSorted ltInt d b i ∧ scanSorted ltInt d b i ≤ b := by
  intro m
  induction m with
  | zero =>
    intro i hm h1 hi
    rw [scanSorted, if_neg (by simp; omega)]
    refine ⟨loopO_end ?_, by omega, by omega⟩
    simp (disch := omega) only [F_slices_partialInsertionSortOrdered_uint64_b2, decide_eq_true_eq, if_neg]
    rfl
  | succ m ih =>
    intro i hm h1 hi
    have hl : d.toList.length = n := by simpa using hd
    have e1 : (i : Int) - 1 = ((i - 1 : Nat) : Int) := by omega
    rw [scanSorted]
    by_cases hib : i < b
    · cases h : ltInt d[i]! d[i - 1]! with
      | true =>
        rw [if_neg (by simp)]
        refine ⟨loopO_end ?_, by omega, by omega⟩
        simp (disch := omega) only [F_slices_partialInsertionSortOrdered_uint64_b2, decide_eq_true_eq, if_pos, hs, e1, wr, Int.toNat_natCast, gd, hl, f_less, h, Option.bind_some]
        rfl
      | false =>
        have ih := ih (i + 1) (by omega) (by omega) (by omega)
        rw [if_pos (by simp [hib])]
        refine ⟨?_, by omega, ih.2.2⟩
        rw [← ih.1]
        refine loopO_go ?_
        simp (disch := omega) only [F_slices_partialInsertionSortOrdered_uint64_b2, decide_eq_true_eq, if_pos, hs, e1, wr, Int.toNat_natCast, gd, hl, f_less, h, Option.bind_some]
        rfl
    · rw [if_neg (by simp; omega)]
      refine ⟨loopO_end ?_, by omega, by omega⟩
      simp (disch := omega) only [F_slices_partialInsertionSortOrdered_uint64_b2, decide_eq_true_eq, if_neg]
      rfl

theorem f_partialL (a b n : Nat) (hn : n ≤ 1152921504606846976) (hab : a < b) (hb : b ≤ n) : ∀ (s i : Nat) (d : Array Int), s ≤ 5 → a < i → i ≤ b → d.size = n →
    ∃ q, loopO (F_slices_partialInsertionSortOrdered_uint64_b1 (a : Int) (b : Int)) ((i : Int), ((5 - s : Nat) : Int), d.toList) = some q ∧ Sum.elim some (fun l => some (false, l)) q = some ((partialIns ltInt a b s i d).2, (partialIns ltInt a b s i d).1.toList)
  | 0, i, d, hs, hai, hi, hd => by
    refine ⟨_, loopO_end (r := .inr d.toList) ?_, rfl⟩
    simp (disch := omega) only [F_slices_partialInsertionSortOrdered_uint64_b1, decide_eq_true_eq, if_neg]
  | s + 1, i, d, hs, hai, hi, hd => by
    have hl : d.toList.length = n := by simpa using hd
    rw [partialIns_succ]
    obtain ⟨k1, k2, k3⟩ := f_scanSortedL ((i : Int), ((5 - (s + 1) : Nat) : Int), d.toList) b n d rfl hn hb hd _ i (Nat.le_refl _) (by omega) hi
    generalize scanSorted ltInt d b i = r at k1 k2 k3 ⊢
    by_cases h1 : r = b
    · rw [if_pos h1]
      refine ⟨_, loopO_end (r := .inl (true, d.toList)) ?_, rfl⟩
      simp (disch := omega) only [F_slices_partialInsertionSortOrdered_uint64_b1, decide_eq_true_eq, if_pos, k1, Option.bind_some]
      rw [if_pos (by simp; omega)]
    · rw [if_neg h1]
      have n1 : ¬ (((r : Int) == (b : Int)) = true) := by simp; omega
      by_cases h2 : b - a < 50
      · rw [if_pos h2]
        refine ⟨_, loopO_end (r := .inl (false, d.toList)) ?_, rfl⟩
        simp (disch := omega) only [F_slices_partialInsertionSortOrdered_uint64_b1, decide_eq_true_eq, if_pos, k1, Option.bind_some, if_neg n1, wr]
      · rw [if_neg h2]
        have e1 : (r : Int) - 1 = ((r - 1 : Nat) : Int) := by omega
        have hD : (swp d r (r - 1)).size = n := by rw [size_swp]; exact hd
        have c1 := f_shiftDownL n hn (r - 1) (swp d r (r - 1)) (by omega) hD
        have hfd : (fixDown ltInt a r (swp d r (r - 1))).size = n := by
          unfold fixDown
          split
          · exact c1.2
          · exact hD
        have c2 := f_shiftUpL b n hn hb _ (r + 1) (fixDown ltInt a r (swp d r (r - 1))) (Nat.le_refl _) (by omega) (by omega) hfd
        have hfu : (fixUp ltInt b r (fixDown ltInt a r (swp d r (r - 1)))).size = n := by
          unfold fixUp
          split
          · exact c2.2
          · exact hfd
        obtain ⟨q, i1, i2⟩ := f_partialL a b n hn hab hb s r (fixUp ltInt b r (fixDown ltInt a r (swp d r (r - 1)))) (by omega) (by omega) k3 hfu
        refine ⟨q, ?_, i2⟩
        rw [← i1]
        refine loopO_go ?_
        have down : (if ((r : Int) - (a : Int)) ≥ 2 then (loopO F_slices_partialInsertionSortOrdered_uint64_b5 (((r - 1 : Nat) : Int), (swp d r (r - 1)).toList)).bind (fun r5 => some r5) else some (swp d r (r - 1)).toList) = some (fixDown ltInt a r (swp d r (r - 1))).toList := by
          unfold fixDown
          by_cases h3 : r - a ≥ 2
          · rw [if_pos (by omega), if_pos h3, c1.1]
            rfl
          · rw [if_neg (by omega), if_neg h3]
        simp (disch := omega) only [F_slices_partialInsertionSortOrdered_uint64_b1, decide_eq_true_eq, if_pos, k1, Option.bind_some, if_neg n1, wr, if_neg, e1, Int.toNat_natCast, gd, sw, lset, hl]
        rw [down]
        simp only [Option.bind_some]
        have es : ((5 - (s + 1) : Nat) : Int) + 1 = ((5 - s : Nat) : Int) := by omega
        rw [es]
        unfold fixUp
        by_cases h4 : b - r ≥ 2
        · have c3 := c2.1
          rw [show ((r + 1 : Nat) : Int) = (r : Int) + 1 by omega] at c3
          rw [if_pos (by omega), if_pos h4, c3]
          rfl
        · rw [if_neg (by omega), if_neg h4]
theorem f_partial (a b : Nat) (d : Array Int) (hn : d.size ≤ 1152921504606846976) (hab : a < b) (hb : b ≤ d.size) : F_slices_partialInsertionSortOrdered_uint64 d.toList (a : Int) (b : Int) = some ((partialInsertionSort ltInt d a b).2, (partialInsertionSort ltInt d a b).1.toList) := by
  obtain ⟨q, h1, h2⟩ := f_partialL a b d.size hn hab hb 5 (a + 1) d (Nat.le_refl _) (by omega) (by omega) rfl
  unfold F_slices_partialInsertionSortOrdered_uint64
  rw [wr (by omega), show (a : Int) + 1 = ((a + 1 : Nat) : Int) by omega]
  have : ((5 - 5 : Nat) : Int) = 0 := rfl
  rw [this] at h1
  rw [h1]
  exact h2

theorem f_order2 (d : Array Int) (a b : Nat) (s : Int) (ha : a < d.size) (hb : b < d.size) : ∃ u v t, F_slices_order2Ordered_uint64 d.toList (a : Int) (b : Int) s = some (u, v, t) ∧ ((u = (a : Int) ∧ v = (b : Int)) ∨ (u = (b : Int) ∧ v = (a : Int))) := by
  have hl : d.toList.length = d.size := by simp
  simp (disch := omega) only [F_slices_order2Ordered_uint64, if_pos, hl, Int.toNat_natCast, gd, f_less, Option.bind_some]
  split
  · exact ⟨_, _, _, rfl, .inr ⟨rfl, rfl⟩⟩
  · exact ⟨_, _, _, rfl, .inl ⟨rfl, rfl⟩⟩
theorem f_median (d : Array Int) (a b c : Nat) (s : Int) (ha : a < d.size) (hb : b < d.size) (hc : c < d.size) : ∃ m : Nat, ∃ t, F_slices_medianOrdered_uint64 d.toList (a : Int) (b : Int) (c : Int) s = some ((m : Int), t) ∧ (m = a ∨ m = b ∨ m = c) := by
  obtain ⟨u1, v1, t1, h1, k1⟩ := f_order2 d a b s ha hb
  unfold F_slices_medianOrdered_uint64
  rw [h1]
  simp only [Option.bind_some]
  rcases k1 with ⟨rfl, rfl⟩ | ⟨rfl, rfl⟩
  · obtain ⟨u2, v2, t2, h2, k2⟩ := f_order2 d b c t1 hb hc
    rw [h2]
    simp only [Option.bind_some]
    rcases k2 with ⟨rfl, rfl⟩ | ⟨rfl, rfl⟩
    · obtain ⟨u3, v3, t3, h3, k3⟩ := f_order2 d a b t2 ha hb
      rw [h3]
      rcases k3 with ⟨rfl, rfl⟩ | ⟨rfl, rfl⟩
      · exact ⟨b, _, rfl, .inr (.inl rfl)⟩
      · exact ⟨a, _, rfl, .inl rfl⟩
    · obtain ⟨u3, v3, t3, h3, k3⟩ := f_order2 d a c t2 ha hc
      rw [h3]
      rcases k3 with ⟨rfl, rfl⟩ | ⟨rfl, rfl⟩
      · exact ⟨c, _, rfl, .inr (.inr rfl)⟩
      · exact ⟨a, _, rfl, .inl rfl⟩
  · obtain ⟨u2, v2, t2, h2, k2⟩ := f_order2 d a c t1 ha hc
    rw [h2]
    simp only [Option.bind_some]
    rcases k2 with ⟨rfl, rfl⟩ | ⟨rfl, rfl⟩
    · obtain ⟨u3, v3, t3, h3, k3⟩ := f_order2 d b a t2 hb ha
      rw [h3]
      rcases k3 with ⟨rfl, rfl⟩ | ⟨rfl, rfl⟩
      · exact ⟨a, _, rfl, .inl rfl⟩
      · exact ⟨b, _, rfl, .inr (.inl rfl)⟩
    · obtain ⟨u3, v3, t3, h3, k3⟩ := f_order2 d b c t2 hb hc
      rw [h3]
      rcases k3 with ⟨rfl, rfl⟩ | ⟨rfl, rfl⟩
      · exact ⟨c, _, rfl, .inr (.inr rfl)⟩
      · exact ⟨b, _, rfl, .inr (.inl rfl)⟩
theorem f_medianAdj (d : Array Int) (a : Nat) (s : Int) (hn : d.size ≤ 1152921504606846976) (h1 : 1 ≤ a) (ha : a + 1 < d.size) : ∃ m : Nat, ∃ t, F_slices_medianAdjacentOrdered_uint64 d.toList (a : Int) s = some ((m : Int), t) ∧ a - 1 ≤ m ∧ m ≤ a + 1 := by
  obtain ⟨m, t, h, k⟩ := f_median d (a - 1) a (a + 1) s (by omega) (by omega) ha
  unfold F_slices_medianAdjacentOrdered_uint64
  rw [wr (by omega), wr (by omega), show (a : Int) - 1 = ((a - 1 : Nat) : Int) by omega, show (a : Int) + 1 = ((a + 1 : Nat) : Int) by omega, h]
  exact ⟨m, t, rfl, by omega, by omega⟩
theorem f_pivot (d : Array Int) (a b : Nat) (hn : d.size ≤ 1152921504606846976) (hab : a < b) (hb : b ≤ d.size) : ∃ p : Nat, ∃ h : Int, F_slices_choosePivotOrdered_uint64 d.toList (a : Int) (b : Int) = some ((p : Int), h) ∧ a ≤ p ∧ p < b := by
  have e1 : (b : Int) - (a : Int) = ((b - a : Nat) : Int) := by omega
  have e2 : Int.tdiv ((b - a : Nat) : Int) 4 = (((b - a) / 4 : Nat) : Int) := by rw [Int.tdiv_eq_ediv_of_nonneg (by omega)]; omega
  have fin : ∀ (o : Option (Int × Int)), (∃ m : Nat, ∃ t, o = some ((m : Int), t) ∧ a ≤ m ∧ m < b) → ∃ p : Nat, ∃ h : Int, (o.bind (fun r1 => if (r1.2 == 0) = true then some (r1.1, 1) else if (r1.2 == 12) = true then some (r1.1, 2) else some (r1.1, 0))) = some ((p : Int), h) ∧ a ≤ p ∧ p < b := by
    rintro o ⟨m, t, rfl, h1, h2⟩
    simp only [Option.bind_some]
    split
    · exact ⟨m, _, rfl, h1, h2⟩
    · split <;> exact ⟨m, _, rfl, h1, h2⟩
  unfold F_slices_choosePivotOrdered_uint64
  rw [e1, wr (show _ ∧ _ by omega), e2]
  refine fin _ ?_
  have q4 : (b - a) / 4 * 4 ≤ b - a ∧ b - a < (b - a) / 4 * 4 + 4 := by omega
  generalize (b - a) / 4 = q at q4
  have w1 : IntKind.wrap .i64 ((a : Int) + IntKind.wrap .i64 (IntKind.wrap .i64 (q : Int) * 1)) = ((a + q : Nat) : Int) := by simp (disch := omega) only [wr]; omega
  have w2 : IntKind.wrap .i64 ((a : Int) + IntKind.wrap .i64 (IntKind.wrap .i64 (q : Int) * 2)) = ((a + q * 2 : Nat) : Int) := by simp (disch := omega) only [wr]; omega
  have w3 : IntKind.wrap .i64 ((a : Int) + IntKind.wrap .i64 (IntKind.wrap .i64 (q : Int) * 3)) = ((a + q * 3 : Nat) : Int) := by simp (disch := omega) only [wr]; omega
  rw [w1, w2, w3]
  simp only [decide_eq_true_eq]
  by_cases h8 : ((b - a : Nat) : Int) ≥ 8
  · rw [if_pos h8]
    by_cases h50 : ((b - a : Nat) : Int) ≥ 50
    · rw [if_pos h50]
      obtain ⟨m1, t1, g1, k1, k1'⟩ := f_medianAdj d (a + q) 0 hn (by omega) (by omega)
      obtain ⟨m2, t2, g2, k2, k2'⟩ := f_medianAdj d (a + q * 2) t1 hn (by omega) (by omega)
      obtain ⟨m3, t3, g3, k3, k3'⟩ := f_medianAdj d (a + q * 3) t2 hn (by omega) (by omega)
      obtain ⟨m4, t4, g4, k4⟩ := f_median d m1 m2 m3 t3 (by omega) (by omega) (by omega)
      rw [g1]; simp only [Option.bind_some]
      rw [g2]; simp only [Option.bind_some]
      rw [g3]; simp only [Option.bind_some]
      rw [g4]
      exact ⟨m4, t4, rfl, by omega, by omega⟩
    · rw [if_neg h50]
      obtain ⟨m4, t4, g4, k4⟩ := f_median d (a + q) (a + q * 2) (a + q * 3) 0 (by omega) (by omega) (by omega)
      rw [g4]
      exact ⟨m4, t4, rfl, by omega, by omega⟩
  · rw [if_neg h8]
    exact ⟨_, _, rfl, by omega, by omega⟩
end Go.Proofs.Ytjnaphniplfpkaa
