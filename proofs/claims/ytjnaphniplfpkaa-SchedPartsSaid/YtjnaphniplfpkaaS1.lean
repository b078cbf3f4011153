/- The library's sort at uint64 as plain functions: insertion and sifting are the library's own words of it. -/
import Derived.Test.YtjnaphniplfpkaaZt
import Derived.Sort.Defs
import Derived.Sort.Lot0
import Derived.IntWalk
set_option linter.unusedVariables false
set_option linter.unusedSimpArgs false
namespace Go.Proofs.Ytjnaphniplfpkaa
open Go.RowKit Go.Sort Go.IntWalk

theorem loopO_go {σ τ : Type} {body : σ → Option (σ ⊕ τ)} {s s' : σ} (h : body s = some (.inl s')) : loopO body s = loopO body s' := by rw [loopO_eq, h]; rfl
theorem loopO_end {σ τ : Type} {body : σ → Option (σ ⊕ τ)} {s : σ} {r : τ} (h : body s = some (.inr r)) : loopO body s = some r := by rw [loopO_eq, h]; rfl
theorem f_less (x y : Int) : F_cmp_Less_uint64 x y = some (ltInt x y) := by simp [F_cmp_Less_uint64, F_cmp_isNaN_uint64, ltInt]
theorem gd (d : Array Int) (i : Nat) : List.getD d.toList i 0 = d[i]! := by simp [List.getD, getElem!_def]; cases d[i]? <;> rfl
theorem gdset (d : Array Int) (i j : Nat) (v : Int) : List.getD (List.set d.toList i v) j 0 = (d.setIfInBounds i v)[j]! := by rw [← Array.toList_setIfInBounds]; exact gd _ _
theorem sw (d : Array Int) (i j : Nat) : List.set (List.set d.toList i d[j]!) j d[i]! = (swp d i j).toList := by simp [swp]
theorem lset (l : List Int) (i : Nat) (v : Int) : (List.set l i v).length = l.length := List.length_set

theorem f_insInner (a n : Nat) (hn : n ≤ 1152921504606846976) : ∀ (j : Nat) (d : Array Int), j < n → d.size = n → loopO (F_slices_insertionSortOrdered_uint64_b2 (a : Int)) ((j : Int), d.toList) = some (insInner ltInt a j d).toList
  | 0, d, hj, hd => by
    refine loopO_end ?_
    simp only [F_slices_insertionSortOrdered_uint64_b2, insInner]
    rw [if_neg (by simp)]
    simp
  | j + 1, d, hj, hd => by
    have hl : d.toList.length = n := by simpa using hd
    have e1 : IntKind.wrap .i64 (((j + 1 : Nat) : Int) - 1) = (j : Int) := by rw [i64_in _ (by omega)]; omega
    have t1 : Int.toNat ((j + 1 : Nat) : Int) = j + 1 := by omega
    have t2 : Int.toNat (j : Int) = j := by omega
    by_cases h : j + 1 > a ∧ ltInt d[j + 1]! d[j]! = true
    · have ih := f_insInner a n hn j (swp d (j + 1) j) (by omega) (by rw [size_swp]; exact hd)
      rw [show insInner ltInt a (j + 1) d = insInner ltInt a j (swp d (j + 1) j) by rw [insInner, if_pos (by simpa using h)], ← ih]
      refine loopO_go ?_
      simp only [F_slices_insertionSortOrdered_uint64_b2, e1, t1, t2, gd, f_less, sw, lset, hl, h.2]
      rw [if_pos (by simp; omega), if_pos (by omega), if_pos (by omega)]
      simp only [Option.bind_some, if_true]
      rw [if_pos (by omega), if_pos (by omega), if_pos (by omega), if_pos (by omega)]
    · rw [show insInner ltInt a (j + 1) d = d by rw [insInner, if_neg (by simpa using h)]]
      refine loopO_end ?_
      simp only [F_slices_insertionSortOrdered_uint64_b2, e1, t1, t2, gd, f_less, sw, lset, hl]
      by_cases h1 : j + 1 > a
      · have h2 : ltInt d[j + 1]! d[j]! = false := by
          cases hh : ltInt d[j + 1]! d[j]! with
          | true => exact absurd ⟨h1, hh⟩ h
          | false => rfl
        rw [if_pos (by simp; omega), if_pos (by omega), if_pos (by omega), h2]
        simp
      · rw [if_neg (by simp; omega)]
        simp
theorem wr {x : Int} (h : -9223372036854775808 ≤ x ∧ x ≤ 9223372036854775807) : IntKind.wrap .i64 x = x := i64_in x h
theorem tm2 (r : Nat) : Int.toNat (2 * (r : Int)) = 2 * r := by omega
theorem ts1 {x : Int} (h : 1 ≤ x) : Int.toNat (x - 1) = Int.toNat x - 1 := by omega
theorem ift' {α : Type} {b : Bool} {x y : α} (h : b = true) : (if b = true then x else y) = x := if_pos h
theorem iff' {α : Type} {b : Bool} {x y : α} (h : b = false) : (if b = true then x else y) = y := if_neg (by rw [h]; decide)

theorem f_insOuter (a b n : Nat) (hn : n ≤ 1152921504606846976) (hb : b ≤ n) : ∀ (m i : Nat) (d : Array Int), b - i ≤ m → i ≤ n → d.size = n → loopO (F_slices_insertionSortOrdered_uint64_b1 (a : Int) (b : Int)) ((i : Int), d.toList) = some (insOuter ltInt a b i d).toList := by
  intro m
  induction m with
  | zero =>
    intro i d hm hi hd
    rw [insOuter, if_neg (by omega)]
    refine loopO_end ?_
    simp (disch := omega) only [F_slices_insertionSortOrdered_uint64_b1, decide_eq_true_eq, if_neg]
  | succ m ih =>
    intro i d hm hi hd
    by_cases h : i < b
    · have hsz : (insInner ltInt a i d).size = n := by
        rw [← hd]
        clear ih hm hd h hi
        induction i generalizing d with
        | zero => rfl
        | succ i ihi =>
          rw [insInner]
          split
          · rw [ihi, size_swp]
          · rfl
      have := ih (i + 1) (insInner ltInt a i d) (by omega) (by omega) hsz
      rw [insOuter, if_pos h, ← this]
      refine loopO_go ?_
      simp (disch := omega) only [F_slices_insertionSortOrdered_uint64_b1, decide_eq_true_eq, if_pos, f_insInner a n hn i d (by omega) hd, Option.bind_some, wr]
      rfl
    · rw [insOuter, if_neg h]
      refine loopO_end ?_
      simp (disch := omega) only [F_slices_insertionSortOrdered_uint64_b1, decide_eq_true_eq, if_neg]
theorem f_insertion (a b : Nat) (d : Array Int) (hn : d.size ≤ 1152921504606846976) (hab : a ≤ b) (hb : b ≤ d.size) : F_slices_insertionSortOrdered_uint64 d.toList (a : Int) (b : Int) = some (insertionSort ltInt d a b).toList := by
  unfold F_slices_insertionSortOrdered_uint64
  rw [wr (by omega)]
  by_cases h : a + 1 ≤ d.size
  · have := f_insOuter a b d.size hn hb (b - (a + 1)) (a + 1) d (Nat.le_refl _) h rfl
    rw [show ((a : Int) + 1) = ((a + 1 : Nat) : Int) by omega, this]
    rfl
  · have e : insertionSort ltInt d a b = d := by rw [insertionSort, insOuter, if_neg (by omega)]
    rw [e, loopO_end (r := d.toList)]
    · rfl
    · simp (disch := omega) only [F_slices_insertionSortOrdered_uint64_b1, decide_eq_true_eq, if_neg]

theorem sd_end {hi first r : Nat} {e : Array Int} (h : ¬ 2 * r + 1 < hi) : siftDown ltInt hi first r e = e := by rw [siftDown, dif_pos (by omega)]
theorem sd_left {hi first r : Nat} {e : Array Int} (h : 2 * r + 1 < hi) (h2 : ¬ 2 * r + 1 + 1 < hi ∨ ltInt (e[(first + ((2 * r) + 1))]!) (e[((first + ((2 * r) + 1)) + 1)]!) = false) :
    siftDown ltInt hi first r e = if ltInt (e[(first + r)]!) (e[(first + ((2 * r) + 1))]!) = true then siftDown ltInt hi first ((2 * r) + 1) (swp e (first + r) (first + ((2 * r) + 1))) else e := by
  rw [siftDown, dif_neg (by omega), if_neg]
  · cases hq : ltInt (e[(first + r)]!) (e[(first + ((2 * r) + 1))]!) <;> simp
  · rcases h2 with h2 | h2
    · simp; intro; omega
    · simp [h2]
theorem sd_right {hi first r : Nat} {e : Array Int} (h : 2 * r + 1 < hi) (h2 : 2 * r + 1 + 1 < hi) (h3 : ltInt (e[(first + ((2 * r) + 1))]!) (e[((first + ((2 * r) + 1)) + 1)]!) = true) :
    siftDown ltInt hi first r e = if ltInt (e[(first + r)]!) (e[(first + (((2 * r) + 1) + 1))]!) = true then siftDown ltInt hi first (((2 * r) + 1) + 1) (swp e (first + r) (first + (((2 * r) + 1) + 1))) else e := by
  rw [siftDown, dif_neg (by omega), if_pos (by rw [h3]; simp; omega)]
  show (if (!ltInt (e[(first + r)]!) (e[(first + (((2 * r) + 1) + 1))]!)) = true then e else if h2 : 2 * r + 2 < hi then siftDown ltInt hi first (2 * r + 2) (swp e (first + r) (first + (2 * r + 2))) else e) = _
  cases hq : ltInt (e[(first + r)]!) (e[(first + (((2 * r) + 1) + 1))]!) <;> simp
  intro; omega

theorem f_siftL (hi first n : Nat) (hn : n ≤ 1152921504606846976) (hb : first + hi ≤ n) : ∀ (m r : Nat) (d : Array Int), hi - r ≤ m → r ≤ n → d.size = n →
    ∃ q, loopO (F_slices_siftDownOrdered_uint64_b1 (hi : Int) (first : Int)) ((r : Int), d.toList) = some q ∧ Sum.elim (fun x => x) (fun x => x) q = (siftDown ltInt hi first r d).toList := by
  intro m
  induction m with
  | zero =>
    intro r d hm hr hd
    refine ⟨_, loopO_end (r := .inl d.toList) ?_, by rw [sd_end (by omega)]; rfl⟩
    simp (disch := omega) only [F_slices_siftDownOrdered_uint64_b1, decide_eq_true_eq, wr, if_pos]
  | succ m ih =>
    intro r d hm hr hd
    have hl : d.toList.length = n := by simpa using hd
    by_cases h : 2 * r + 1 < hi
    · have fin : ∀ c : Nat, c < hi → r < c → c ≤ 2 * r + 2 → siftDown ltInt hi first r d = (if ltInt d[first + r]! d[first + c]! = true then siftDown ltInt hi first c (swp d (first + r) (first + c)) else d) →
          (F_slices_siftDownOrdered_uint64_b1 (hi : Int) (first : Int) ((r : Int), d.toList) = if ltInt d[first + r]! d[first + c]! = true then some (Sum.inl ((c : Int), (swp d (first + r) (first + c)).toList)) else some (Sum.inr (Sum.inr d.toList))) →
          ∃ q, loopO (F_slices_siftDownOrdered_uint64_b1 (hi : Int) (first : Int)) ((r : Int), d.toList) = some q ∧ Sum.elim (fun x => x) (fun x => x) q = (siftDown ltInt hi first r d).toList := by
        intro c hc1 hc2 hc3 e1 e2
        by_cases hq : ltInt d[first + r]! d[first + c]! = true
        · rw [if_pos hq] at e1 e2
          rw [e1, loopO_go e2]
          exact ih c _ (by omega) (by omega) (by rw [size_swp]; exact hd)
        · rw [if_neg hq] at e1 e2
          rw [e1]
          exact ⟨_, loopO_end e2, rfl⟩
      have both : ∀ c : Nat, c < hi → r < c → c ≤ 2 * r + 2 → ∀ k : Int → Option (Int × List Int ⊕ (List Int ⊕ List Int)), 
        (∀ r3 : Int, k r3 = if 0 ≤ (IntKind.wrap .i64 ((first : Int) + (r : Int))) ∧ (IntKind.wrap .i64 ((first : Int) + (r : Int))) < ((List.length d.toList : Nat) : Int) then (if 0 ≤ (IntKind.wrap .i64 ((first : Int) + r3)) ∧ (IntKind.wrap .i64 ((first : Int) + r3)) < ((List.length d.toList : Nat) : Int) then (F_cmp_Less_uint64 (List.getD d.toList (Int.toNat (IntKind.wrap .i64 ((first : Int) + (r : Int)))) 0) (List.getD d.toList (Int.toNat (IntKind.wrap .i64 ((first : Int) + r3))) 0)).bind fun t1 => (if (!t1) = true then some (Sum.inr (Sum.inr d.toList)) else if 0 ≤ (IntKind.wrap .i64 ((first : Int) + r3)) ∧ (IntKind.wrap .i64 ((first : Int) + r3)) < ((List.length d.toList : Nat) : Int) then (if 0 ≤ (IntKind.wrap .i64 ((first : Int) + (r : Int))) ∧ (IntKind.wrap .i64 ((first : Int) + (r : Int))) < ((List.length d.toList : Nat) : Int) then (if 0 ≤ (IntKind.wrap .i64 ((first : Int) + (r : Int))) ∧ (IntKind.wrap .i64 ((first : Int) + (r : Int))) < ((List.length d.toList : Nat) : Int) then (if 0 ≤ (IntKind.wrap .i64 ((first : Int) + r3)) ∧ (IntKind.wrap .i64 ((first : Int) + r3)) < ((List.length (List.set d.toList (Int.toNat (IntKind.wrap .i64 ((first : Int) + (r : Int)))) (List.getD d.toList (Int.toNat (IntKind.wrap .i64 ((first : Int) + r3))) 0)) : Nat) : Int) then (some (Sum.inl (r3, List.set (List.set d.toList (Int.toNat (IntKind.wrap .i64 ((first : Int) + (r : Int)))) (List.getD d.toList (Int.toNat (IntKind.wrap .i64 ((first : Int) + r3))) 0)) (Int.toNat (IntKind.wrap .i64 ((first : Int) + r3))) (List.getD d.toList (Int.toNat (IntKind.wrap .i64 ((first : Int) + (r : Int)))) 0)))) else none) else none) else none) else none) else none) else none) →
          k (c : Int) = if ltInt d[first + r]! d[first + c]! = true then some (Sum.inl ((c : Int), (swp d (first + r) (first + c)).toList)) else some (Sum.inr (Sum.inr d.toList)) := by
        intro c hc1 hc2 hc3 k hk
        rw [hk]
        simp (disch := omega) only [wr, Int.toNat_add, Int.toNat_natCast, gd, sw, lset, f_less, hl, if_pos, Option.bind_some]
        cases ltInt d[first + r]! d[first + c]! <;> rfl
      by_cases h2 : 2 * r + 1 + 1 < hi ∧ ltInt (d[(first + ((2 * r) + 1))]!) (d[((first + ((2 * r) + 1)) + 1)]!) = true
      · refine fin (2 * r + 1 + 1) (by omega) (by omega) (by omega) (sd_right h h2.1 h2.2) ?_
        refine Eq.trans ?_ (both (2 * r + 1 + 1) (by omega) (by omega) (by omega) _ fun _ => rfl)
        simp (disch := omega) only [F_slices_siftDownOrdered_uint64_b1, decide_eq_true_eq, wr, if_neg, if_pos, Int.toNat_add, tm2, Int.toNat_one, Int.toNat_natCast, gd, f_less, hl, h2.2, Option.bind_some, if_true]
        rw [show (2 * (r : Int) + 1 + 1) = ((2 * r + 1 + 1 : Nat) : Int) by omega]
      · have e2 : F_slices_siftDownOrdered_uint64_b1 (hi : Int) (first : Int) ((r : Int), d.toList) = if ltInt d[first + r]! d[first + (2 * r + 1)]! = true then some (Sum.inl (((2 * r + 1 : Nat) : Int), (swp d (first + r) (first + (2 * r + 1))).toList)) else some (Sum.inr (Sum.inr d.toList)) := by
          refine Eq.trans ?_ (both (2 * r + 1) (by omega) (by omega) (by omega) _ fun _ => rfl)
          by_cases h3 : 2 * r + 1 + 1 < hi
          · have h4 : ltInt (d[(first + ((2 * r) + 1))]!) (d[((first + ((2 * r) + 1)) + 1)]!) = false := by
              cases hh : ltInt (d[(first + ((2 * r) + 1))]!) (d[((first + ((2 * r) + 1)) + 1)]!) with
              | true => exact absurd ⟨h3, hh⟩ h2
              | false => rfl
            simp (disch := omega) only [F_slices_siftDownOrdered_uint64_b1, decide_eq_true_eq, wr, if_neg, if_pos, Int.toNat_add, tm2, Int.toNat_one, Int.toNat_natCast, gd, f_less, hl, h4, Option.bind_some, Bool.false_eq_true, if_false]
            rw [show (2 * (r : Int) + 1) = ((2 * r + 1 : Nat) : Int) by omega]
          · simp (disch := omega) only [F_slices_siftDownOrdered_uint64_b1, decide_eq_true_eq, wr, if_neg, if_pos, Int.toNat_add, tm2, Int.toNat_one, Int.toNat_natCast, gd, f_less, hl, Option.bind_some, Bool.false_eq_true, if_false]
            rw [show (2 * (r : Int) + 1) = ((2 * r + 1 : Nat) : Int) by omega]
        refine fin (2 * r + 1) (by omega) (by omega) (by omega) (sd_left h ?_) e2
        by_cases h3 : 2 * r + 1 + 1 < hi
        · right
          cases hh : ltInt (d[(first + ((2 * r) + 1))]!) (d[((first + ((2 * r) + 1)) + 1)]!) with
          | true => exact absurd ⟨h3, hh⟩ h2
          | false => rfl
        · exact .inl h3
    · refine ⟨_, loopO_end (r := .inl d.toList) ?_, by rw [sd_end h]; rfl⟩
      simp (disch := omega) only [F_slices_siftDownOrdered_uint64_b1, decide_eq_true_eq, wr, if_pos]
theorem f_sift (hi first r : Nat) (d : Array Int) (hn : d.size ≤ 1152921504606846976) (hb : first + hi ≤ d.size) (hr : r ≤ d.size) : F_slices_siftDownOrdered_uint64 d.toList (r : Int) (hi : Int) (first : Int) = some (siftDown ltInt hi first r d).toList := by
  obtain ⟨q, h1, h2⟩ := f_siftL hi first d.size hn hb (hi - r) r d (Nat.le_refl _) hr rfl
  unfold F_slices_siftDownOrdered_uint64
  rw [h1, ← h2]
  cases q <;> rfl
end Go.Proofs.Ytjnaphniplfpkaa
