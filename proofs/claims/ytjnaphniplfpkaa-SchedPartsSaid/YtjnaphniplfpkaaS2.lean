/- The library's sort at uint64 as plain functions: heap, reversal, partitions. -/
import Derived.Test.YtjnaphniplfpkaaS1
import Derived.Sort.LotC
set_option linter.unusedVariables false
set_option linter.unusedSimpArgs false
namespace Go.Proofs.Ytjnaphniplfpkaa
open Go.RowKit Go.Sort Go.IntWalk

theorem sift_size {n hi first : Nat} : ∀ {r : Nat} {e : Array Int}, e.size = n → first + hi ≤ n → (siftDown ltInt hi first r e).size = n := by
  intro r
  induction hk : hi - r using Nat.strongRecOn generalizing r with
  | _ k ih =>
    intro e he hb
    by_cases hc : 2 * r + 1 < hi
    · by_cases h2 : 2 * r + 1 + 1 < hi ∧ ltInt (e[(first + ((2 * r) + 1))]!) (e[((first + ((2 * r) + 1)) + 1)]!) = true
      · rw [sd_right hc h2.1 h2.2]
        split
        · exact ih _ (by omega) rfl ((Go.Sort.size_swp _ _ _).trans he) hb
        · exact he
      · rw [sd_left hc (by
          by_cases h3 : 2 * r + 1 + 1 < hi
          · right
            cases hq : ltInt (e[(first + ((2 * r) + 1))]!) (e[((first + ((2 * r) + 1)) + 1)]!) with
            | false => rfl
            | true => exact absurd ⟨h3, hq⟩ h2
          · exact .inl h3)]
        split
        · exact ih _ (by omega) rfl ((Go.Sort.size_swp _ _ _).trans he) hb
        · exact he
    · rw [sd_end hc]; exact he

theorem f_build (a b n : Nat) (hn : n ≤ 1152921504606846976) (hab : a ≤ b) (hb : b ≤ n) : ∀ (k : Nat) (d : Array Int), k ≤ n + 1 → d.size = n → loopO (F_slices_heapSortOrdered_uint64_b1 (a : Int) (b : Int)) ((k : Int) - 1, d.toList) = some (heapBuild ltInt (b - a) a k d).toList ∧ (heapBuild ltInt (b - a) a k d).size = n
  | 0, d, hk, hd => by
    refine ⟨loopO_end ?_, hd⟩
    simp (disch := omega) only [F_slices_heapSortOrdered_uint64_b1, decide_eq_true_eq, if_neg]
    rfl
  | k + 1, d, hk, hd => by
    have ih := f_build a b n hn hab hb k (siftDown ltInt (b - a) a k d) (by omega) (sift_size hd (by omega))
    rw [heapBuild]
    refine ⟨?_, ih.2⟩
    rw [← ih.1]
    refine loopO_go ?_
    have e1 : ((k + 1 : Nat) : Int) - 1 = (k : Int) := by omega
    have e2 : (b : Int) - (a : Int) = ((b - a : Nat) : Int) := by omega
    simp (disch := omega) only [F_slices_heapSortOrdered_uint64_b1, decide_eq_true_eq, if_pos, e1, e2, wr]
    rw [f_sift (b - a) a k d (by omega) (by omega) (by omega)]
    rfl
theorem f_pop (a n : Nat) (hn : n ≤ 1152921504606846976) : ∀ (k : Nat) (d : Array Int), a + k ≤ n → d.size = n → loopO (F_slices_heapSortOrdered_uint64_b2 (a : Int)) ((k : Int) - 1, d.toList) = some (heapPop ltInt a k d).toList
  | 0, d, hk, hd => by
    refine loopO_end ?_
    simp (disch := omega) only [F_slices_heapSortOrdered_uint64_b2, decide_eq_true_eq, if_neg]
    rfl
  | k + 1, d, hk, hd => by
    have hs : (swp d a (a + k)).size = n := by rw [size_swp]; exact hd
    have ih := f_pop a n hn k (siftDown ltInt k a 0 (swp d a (a + k))) (by omega) (sift_size hs (by omega))
    have hl : d.toList.length = n := by simpa using hd
    rw [heapPop, ← ih]
    refine loopO_go ?_
    have e1 : ((k + 1 : Nat) : Int) - 1 = (k : Int) := by omega
    simp (disch := omega) only [F_slices_heapSortOrdered_uint64_b2, decide_eq_true_eq, if_pos, e1, wr, Int.toNat_add, Int.toNat_natCast, gd, sw, lset, hl]
    have := f_sift k a 0 (swp d a (a + k)) (by omega) (by omega) (by omega)
    rw [Int.natCast_zero] at this
    rw [this]
    rfl
theorem f_heap (a b : Nat) (d : Array Int) (hn : d.size ≤ 1152921504606846976) (hab : a ≤ b) (hb : b ≤ d.size) : F_slices_heapSortOrdered_uint64 d.toList (a : Int) (b : Int) = some (heapSort ltInt d a b).toList := by
  have e2 : (b : Int) - (a : Int) = ((b - a : Nat) : Int) := by omega
  have e3 : Int.tdiv (((b - a : Nat) : Int) - 1) 2 = (((b - a - 1) / 2 + 1 : Nat) : Int) - 1 := by
    by_cases h : b - a = 0
    · rw [h]; rfl
    · rw [Int.tdiv_eq_ediv_of_nonneg (by omega)]; omega
  obtain ⟨h1, h2⟩ := f_build a b d.size hn hab hb ((b - a - 1) / 2 + 1) d (by omega) rfl
  have h3 := f_pop a d.size hn (b - a) _ (by omega) h2
  unfold F_slices_heapSortOrdered_uint64
  simp (disch := omega) only [e2, wr]
  rw [e3, h1]
  simp only [Option.bind_some]
  rw [h3]
  rfl

theorem f_reverseL (n : Nat) (hn : n ≤ 1152921504606846976) : ∀ (m i j : Nat) (d : Array Int), j - i ≤ m → i ≤ n → j < n → d.size = n → loopO F_slices_reverseRangeOrdered_uint64_b1 ((i : Int), (j : Int), d.toList) = some (reverseLoop i j d).toList := by
  intro m
  induction m with
  | zero =>
    intro i j d hm hi hj hd
    rw [reverseLoop, if_neg (by omega)]
    refine loopO_end ?_
    simp (disch := omega) only [F_slices_reverseRangeOrdered_uint64_b1, decide_eq_true_eq, if_neg]
  | succ m ih =>
    intro i j d hm hi hj hd
    by_cases h : i < j
    · have hl : d.toList.length = n := by simpa using hd
      have := ih (i + 1) (j - 1) (swp d i j) (by omega) (by omega) (by omega) (by rw [size_swp]; exact hd)
      rw [reverseLoop, if_pos h, ← this]
      refine loopO_go ?_
      simp (disch := omega) only [F_slices_reverseRangeOrdered_uint64_b1, decide_eq_true_eq, if_pos, wr, Int.toNat_natCast, gd, sw, lset, hl]
      rw [show (j : Int) - 1 = ((j - 1 : Nat) : Int) by omega]
      rfl
    · rw [reverseLoop, if_neg h]
      refine loopO_end ?_
      simp (disch := omega) only [F_slices_reverseRangeOrdered_uint64_b1, decide_eq_true_eq, if_neg]
theorem f_reverse (a b : Nat) (d : Array Int) (hn : d.size ≤ 1152921504606846976) (hab : a < b) (hb : b ≤ d.size) : F_slices_reverseRangeOrdered_uint64 d.toList (a : Int) (b : Int) = some (reverseRange d a b).toList := by
  have := f_reverseL d.size hn _ a (b - 1) d (Nat.le_refl _) (by omega) (by omega) rfl
  unfold F_slices_reverseRangeOrdered_uint64
  rw [wr (by omega), show (b : Int) - 1 = ((b - 1 : Nat) : Int) by omega, this]
  rfl

theorem f_scanUp {B : Int → Option (Int ⊕ Int)} {p : Int → Bool} {d : Array Int} {j : Nat} (h1 : ∀ i : Nat, i ≤ j → B i = if p d[i]! = true then some (.inl ((i : Int) + 1)) else some (.inr (i : Int))) (h2 : ∀ i : Nat, j < i → B i = some (.inr (i : Int))) :
    ∀ (m i : Nat), j + 1 - i ≤ m → loopO B (i : Int) = some ((scanUp p d j i : Nat) : Int) := by
  intro m
  induction m with
  | zero =>
    intro i hm
    rw [scanUp, if_neg (by simp; omega)]
    exact loopO_end (h2 i (by omega))
  | succ m ih =>
    intro i hm
    rw [scanUp]
    by_cases h : i ≤ j
    · cases hp : p d[i]! with
      | true =>
        rw [if_pos (by simp [h])]
        rw [← ih (i + 1) (by omega)]
        refine loopO_go ?_
        rw [h1 i h, if_pos hp]
        rfl
      | false =>
        rw [if_neg (by simp)]
        refine loopO_end ?_
        rw [h1 i h, if_neg (by rw [hp]; decide)]
    · rw [if_neg (by simp; omega)]
      exact loopO_end (h2 i (by omega))
theorem f_scanDown {B : Int → Option (Int ⊕ Int)} {p : Int → Bool} {d : Array Int} {i j0 : Nat} (hi : 1 ≤ i) (h1 : ∀ j : Nat, i ≤ j → j ≤ j0 → B j = if p d[j]! = true then some (.inl ((j : Int) - 1)) else some (.inr (j : Int))) (h2 : ∀ j : Nat, j < i → B j = some (.inr (j : Int))) :
    ∀ (j : Nat), j ≤ j0 → loopO B (j : Int) = some ((scanDown p d i j : Nat) : Int)
  | 0, _ => loopO_end (h2 0 hi)
  | j + 1, hj => by
    rw [scanDown]
    by_cases h : i ≤ j + 1
    · cases hp : p d[j + 1]! with
      | true =>
        rw [if_pos (by simp [h]), ← f_scanDown hi h1 h2 j (by omega)]
        refine loopO_go ?_
        rw [h1 (j + 1) h hj, if_pos hp, show ((j + 1 : Nat) : Int) - 1 = (j : Int) by omega]
      | false =>
        rw [if_neg (by simp)]
        refine loopO_end ?_
        rw [h1 (j + 1) h hj, if_neg (by rw [hp]; decide)]
    · rw [if_neg (by simp; omega)]
      exact loopO_end (h2 (j + 1) (by omega))
theorem bno {b : Bool} {x y : Option (Int ⊕ Int)} : ((some (!b)).bind fun r => if r = true then x else y) = if (!b) = true then x else y := rfl

theorem f_partEqL (a n : Nat) (hn : n ≤ 1152921504606846976) : ∀ (m i j : Nat) (d : Array Int), j + 1 - i ≤ m → a < i → i ≤ j + 1 → j < n → d.size = n →
    loopO (F_slices_partitionEqualOrdered_uint64_b1 (a : Int)) ((i : Int), (j : Int), d.toList) = some (((partEqLoop ltInt a i j d).1 : Int), (partEqLoop ltInt a i j d).2.toList) ∧ (partEqLoop ltInt a i j d).2.size = n := by
  intro m
  induction m using Nat.strongRecOn with
  | _ m ih =>
    intro i j d hm hai hij hj hd
    have hl : d.toList.length = n := by simpa using hd
    have s1 : loopO (F_slices_partitionEqualOrdered_uint64_b2 ((i : Int), (j : Int), d.toList) (a : Int)) (i : Int) = some ((scanUp (fun x => !ltInt d[a]! x) d j i : Nat) : Int) := by
      refine f_scanUp (fun k hk => ?_) (fun k hk => ?_) _ i (Nat.le_refl _)
      · simp (disch := omega) only [F_slices_partitionEqualOrdered_uint64_b2, decide_eq_true_eq, if_pos, Int.toNat_natCast, gd, f_less, hl, wr, Option.bind_some]
      · simp (disch := omega) only [F_slices_partitionEqualOrdered_uint64_b2, decide_eq_true_eq, if_neg]
        rfl
    have u1 := scanUp_spec (fun x => !ltInt d[a]! x) d j _ i rfl
    have s2 : loopO (F_slices_partitionEqualOrdered_uint64_b3 ((scanUp (fun x => !ltInt d[a]! x) d j i : Nat) : Int) ((i : Int), (j : Int), d.toList) (a : Int)) (j : Int) = some ((scanDown (fun x => ltInt d[a]! x) d (scanUp (fun x => !ltInt d[a]! x) d j i) j : Nat) : Int) := by
      refine f_scanDown (by omega) (fun k hk hk2 => ?_) (fun k hk => ?_) j (Nat.le_refl _)
      · simp (disch := omega) only [F_slices_partitionEqualOrdered_uint64_b3, decide_eq_true_eq, if_pos, Int.toNat_natCast, gd, f_less, hl, wr, Option.bind_some]
      · simp (disch := omega) only [F_slices_partitionEqualOrdered_uint64_b3, decide_eq_true_eq, if_neg]
        rfl
    have u2 := scanDown_spec (fun x => ltInt d[a]! x) d (scanUp (fun x => !ltInt d[a]! x) d j i) j
    rw [partEqLoop_eq]
    generalize hi2 : scanUp (fun x => !ltInt d[a]! x) d j i = i2 at s1 s2 u1 u2 ⊢
    generalize hj2 : scanDown (fun x => ltInt d[a]! x) d i2 j = j2 at s2 u2 ⊢
    by_cases h : i2 > j2
    · rw [if_pos h]
      refine ⟨loopO_end ?_, hd⟩
      simp only [F_slices_partitionEqualOrdered_uint64_b1, s1, s2, Option.bind_some]
      rw [if_pos (by simp; omega)]
    · rw [if_neg h]
      have hne : i2 ≠ j2 := by
        rintro rfl
        have a1 := u1.2.2.2 (by omega)
        have a2 := u2.2.2.2 (Nat.le_refl _) (by omega)
        simp only [Bool.not_eq_false'] at a1 a2
        rw [a1] at a2
        cases a2
      have hr := ih (j2 - 1 + 1 - (i2 + 1)) (by omega) (i2 + 1) (j2 - 1) (swp d i2 j2) (Nat.le_refl _) (by omega) (by omega) (by omega) (by rw [size_swp]; exact hd)
      refine ⟨?_, hr.2⟩
      rw [← hr.1]
      refine loopO_go ?_
      simp (disch := omega) only [F_slices_partitionEqualOrdered_uint64_b1, s1, s2, Option.bind_some, decide_eq_true_eq, if_neg, if_pos, Int.toNat_natCast, gd, sw, lset, hl, wr]
      rw [show (j2 : Int) - 1 = ((j2 - 1 : Nat) : Int) by omega]
      rfl
theorem f_partitionEqual (a b p : Nat) (d : Array Int) (hn : d.size ≤ 1152921504606846976) (hab : a < b) (hb : b ≤ d.size) (hp1 : a ≤ p) (hp2 : p < b) :
    F_slices_partitionEqualOrdered_uint64 d.toList (a : Int) (b : Int) (p : Int) = some (((partitionEqual ltInt d a b p).1 : Int), (partitionEqual ltInt d a b p).2.toList) := by
  have := f_partEqL a d.size hn _ (a + 1) (b - 1) (swp d a p) (Nat.le_refl _) (by omega) (by omega) (by omega) (by rw [size_swp])
  have hl : d.toList.length = d.size := by simp
  unfold F_slices_partitionEqualOrdered_uint64
  simp (disch := omega) only [if_pos, Int.toNat_natCast, gd, sw, lset, hl, wr]
  rw [show (b : Int) - 1 = ((b - 1 : Nat) : Int) by omega, show (a : Int) + 1 = ((a + 1 : Nat) : Int) by omega, this.1]
  rfl

theorem f_partL (a n : Nat) (hn : n ≤ 1152921504606846976) : ∀ (m i j : Nat) (d : Array Int), j + 1 - i ≤ m → a < i → i ≤ j + 1 → j < n → d.size = n →
    loopO (F_slices_partitionOrdered_uint64_b3 (a : Int)) ((i : Int), (j : Int), d.toList) = some (((partLoop ltInt a i j d).1 : Int), (partLoop ltInt a i j d).2.toList) ∧ (partLoop ltInt a i j d).2.size = n ∧ (partLoop ltInt a i j d).1 ≤ j := by
  intro m
  induction m using Nat.strongRecOn with
  | _ m ih =>
    intro i j d hm hai hij hj hd
    have hl : d.toList.length = n := by simpa using hd
    have s1 : loopO (F_slices_partitionOrdered_uint64_b4 ((i : Int), (j : Int), d.toList) (a : Int)) (i : Int) = some ((scanUp (fun x => ltInt x d[a]!) d j i : Nat) : Int) := by
      refine f_scanUp (fun k hk => ?_) (fun k hk => ?_) _ i (Nat.le_refl _)
      · simp (disch := omega) only [F_slices_partitionOrdered_uint64_b4, decide_eq_true_eq, if_pos, Int.toNat_natCast, gd, f_less, hl, wr, Option.bind_some]
      · simp (disch := omega) only [F_slices_partitionOrdered_uint64_b4, decide_eq_true_eq, if_neg]
        rfl
    have u1 := scanUp_spec (fun x => ltInt x d[a]!) d j _ i rfl
    have s2 : loopO (F_slices_partitionOrdered_uint64_b5 ((scanUp (fun x => ltInt x d[a]!) d j i : Nat) : Int) ((i : Int), (j : Int), d.toList) (a : Int)) (j : Int) = some ((scanDown (fun x => !ltInt x d[a]!) d (scanUp (fun x => ltInt x d[a]!) d j i) j : Nat) : Int) := by
      refine f_scanDown (by omega) (fun k hk hk2 => ?_) (fun k hk => ?_) j (Nat.le_refl _)
      · simp (disch := omega) only [F_slices_partitionOrdered_uint64_b5, decide_eq_true_eq, if_pos, Int.toNat_natCast, gd, f_less, hl, wr, Option.bind_some]
      · simp (disch := omega) only [F_slices_partitionOrdered_uint64_b5, decide_eq_true_eq, if_neg]
        rfl
    have u2 := scanDown_spec (fun x => !ltInt x d[a]!) d (scanUp (fun x => ltInt x d[a]!) d j i) j
    rw [partLoop_eq]
    generalize hi2 : scanUp (fun x => ltInt x d[a]!) d j i = i2 at s1 s2 u1 u2 ⊢
    generalize hj2 : scanDown (fun x => !ltInt x d[a]!) d i2 j = j2 at s2 u2 ⊢
    by_cases h : i2 > j2
    · rw [if_pos h]
      refine ⟨loopO_end ?_, hd, u2.1⟩
      simp only [F_slices_partitionOrdered_uint64_b3, s1, s2, Option.bind_some]
      rw [if_pos (by simp; omega)]
    · rw [if_neg h]
      have hne : i2 ≠ j2 := by
        rintro rfl
        have a1 := u1.2.2.2 (by omega)
        have a2 := u2.2.2.2 (Nat.le_refl _) (by omega)
        simp only [Bool.not_eq_false'] at a1 a2
        rw [a1] at a2
        cases a2
      have hr := ih (j2 - 1 + 1 - (i2 + 1)) (by omega) (i2 + 1) (j2 - 1) (swp d i2 j2) (Nat.le_refl _) (by omega) (by omega) (by omega) (by rw [size_swp]; exact hd)
      refine ⟨?_, hr.2.1, by omega⟩
      rw [← hr.1]
      refine loopO_go ?_
      simp (disch := omega) only [F_slices_partitionOrdered_uint64_b3, s1, s2, Option.bind_some, decide_eq_true_eq, if_neg, if_pos, Int.toNat_natCast, gd, sw, lset, hl, wr]
      rw [show (j2 : Int) - 1 = ((j2 - 1 : Nat) : Int) by omega]
      rfl
theorem f_partition (a b p : Nat) (d : Array Int) (hn : d.size ≤ 1152921504606846976) (hab : a < b) (hb : b ≤ d.size) (hp1 : a ≤ p) (hp2 : p < b) :
    F_slices_partitionOrdered_uint64 d.toList (a : Int) (b : Int) (p : Int) = some (((partition ltInt d a b p).1 : Int), (partition ltInt d a b p).2.1, (partition ltInt d a b p).2.2.toList) := by
  have hl : d.toList.length = d.size := by simp
  have hD : (swp d a p).size = d.size := size_swp _ _ _
  have hDl : (swp d a p).toList.length = d.size := by simpa using hD
  have s1 : loopO (F_slices_partitionOrdered_uint64_b1 d.toList (a : Int) (b : Int) (p : Int)) ((a + 1 : Nat) : Int) = some ((scanUp (fun x => ltInt x (swp d a p)[a]!) (swp d a p) (b - 1) (a + 1) : Nat) : Int) := by
    refine f_scanUp (fun k hk => ?_) (fun k hk => ?_) _ _ (Nat.le_refl _)
    · simp (disch := omega) only [F_slices_partitionOrdered_uint64_b1, decide_eq_true_eq, if_pos, Int.toNat_natCast, gd, sw, f_less, hDl, wr, Option.bind_some]
    · simp (disch := omega) only [F_slices_partitionOrdered_uint64_b1, decide_eq_true_eq, wr, if_neg]
      rfl
  have u1 := scanUp_spec (fun x => ltInt x (swp d a p)[a]!) (swp d a p) (b - 1) _ (a + 1) rfl
  have s2 : loopO (F_slices_partitionOrdered_uint64_b2 ((scanUp (fun x => ltInt x (swp d a p)[a]!) (swp d a p) (b - 1) (a + 1) : Nat) : Int) d.toList (a : Int) (p : Int)) ((b - 1 : Nat) : Int) = some ((scanDown (fun x => !ltInt x (swp d a p)[a]!) (swp d a p) (scanUp (fun x => ltInt x (swp d a p)[a]!) (swp d a p) (b - 1) (a + 1)) (b - 1) : Nat) : Int) := by
    refine f_scanDown (by omega) (fun k hk hk2 => ?_) (fun k hk => ?_) _ (Nat.le_refl _)
    · simp (disch := omega) only [F_slices_partitionOrdered_uint64_b2, decide_eq_true_eq, if_pos, Int.toNat_natCast, gd, sw, f_less, hDl, wr, Option.bind_some]
    · simp (disch := omega) only [F_slices_partitionOrdered_uint64_b2, decide_eq_true_eq, if_neg]
      rfl
  have u2 := scanDown_spec (fun x => !ltInt x (swp d a p)[a]!) (swp d a p) (scanUp (fun x => ltInt x (swp d a p)[a]!) (swp d a p) (b - 1) (a + 1)) (b - 1)
  unfold F_slices_partitionOrdered_uint64 partition
  simp only
  generalize hi2 : scanUp (fun x => ltInt x (swp d a p)[a]!) (swp d a p) (b - 1) (a + 1) = i2 at s1 s2 u1 u2 ⊢
  generalize hj2 : scanDown (fun x => !ltInt x (swp d a p)[a]!) (swp d a p) i2 (b - 1) = j2 at s2 u2 ⊢
  rw [show IntKind.wrap .i64 ((a : Int) + 1) = ((a + 1 : Nat) : Int) by rw [wr (by omega)]; rfl, show IntKind.wrap .i64 ((b : Int) - 1) = ((b - 1 : Nat) : Int) by rw [wr (by omega)]; omega, s1]
  simp only [Option.bind_some]
  rw [s2]
  simp only [Option.bind_some]
  by_cases h : i2 > j2
  · rw [if_pos h]
    simp (disch := omega) only [decide_eq_true_eq, if_pos, Int.toNat_natCast, gd, sw, lset, hl, hDl, wr]
  · rw [if_neg h]
    have hne : i2 ≠ j2 := by
      rintro rfl
      have a1 := u1.2.2.2 (by omega)
      have a2 := u2.2.2.2 (Nat.le_refl _) (by omega)
      simp only [Bool.not_eq_false'] at a1 a2
      rw [a1] at a2
      cases a2
    have hr := f_partL a d.size hn _ (i2 + 1) (j2 - 1) (swp (swp d a p) i2 j2) (Nat.le_refl _) (by omega) (by omega) (by omega) (by rw [size_swp]; exact hD)
    simp (disch := omega) only [decide_eq_true_eq, if_neg, if_pos, Int.toNat_natCast, gd, sw, lset, hl, hDl, wr]
    rw [show (j2 : Int) - 1 = ((j2 - 1 : Nat) : Int) by omega, show (i2 : Int) + 1 = ((i2 + 1 : Nat) : Int) by omega, hr.1]
    have hrl : (partLoop ltInt a (i2 + 1) (j2 - 1) (swp (swp d a p) i2 j2)).2.toList.length = d.size := by simpa using hr.2.1
    have hr3 := hr.2.2
    simp only [Option.bind_some]
    generalize (partLoop ltInt a (i2 + 1) (j2 - 1) (swp (swp d a p) i2 j2)) = q at hrl hr3 ⊢
    simp (disch := omega) only [if_pos, Int.toNat_natCast, gd, sw, lset, hrl]
end Go.Proofs.Ytjnaphniplfpkaa
