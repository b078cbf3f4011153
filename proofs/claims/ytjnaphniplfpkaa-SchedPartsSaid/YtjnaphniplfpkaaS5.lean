/- The library's sort at uint64 as a plain function sorts. -/
import Derived.Test.YtjnaphniplfpkaaS4
set_option linter.unusedVariables false
set_option linter.unusedSimpArgs false
namespace Go.Proofs.Ytjnaphniplfpkaa
open Go.RowKit Go.Sort Go.IntWalk

theorem f_pdqL : ∀ (m fuel : Nat), m ≤ fuel → ∀ (d : Array Int) (a b : Nat) (L : Int) (wb wp : Bool), b - a ≤ m → a ≤ b → b ≤ d.size → d.size ≤ 1152921504606846976 → Go.Sort.Below ltInt a b d → 0 ≤ L → L ≤ 1000 →
    ∃ d' : Array Int, loopO (F_slices_pdqsortOrdered_uint64_s_b1 (F_slices_pdqsortOrdered_uint64_n fuel)) ((a : Int), (b : Int), L, wb, wp, d.toList) = some d'.toList ∧ PermIn a b d d' ∧ SortedIn ltInt a b d' := by
  intro m
  induction m using Nat.strongRecOn with
  | _ m ih =>
    intro fuel hfuel d a b L wb wp hm hab hb hn hB hL0 hL1
    by_cases h12 : b - a ≤ 12
    · refine ⟨insertionSort ltInt d a b, loopO_end ?_, insertionSort_holds swo_ltInt d a b hab hb⟩
      simp (disch := omega) only [F_slices_pdqsortOrdered_uint64_s_b1, decide_eq_true_eq, wr, if_pos]
      rw [f_insertion a b d hn hab hb]
      rfl
    have c1 : ¬ (decide ((IntKind.wrap .i64 ((b : Int) - (a : Int))) ≤ 12)) = true := by rw [wr (by omega)]; simp; omega
    by_cases hL : L = 0
    · refine ⟨heapSort ltInt d a b, loopO_end ?_, heapSort_holds swo_ltInt d a b hab hb⟩
      subst hL
      simp only [F_slices_pdqsortOrdered_uint64_s_b1]
      rw [if_neg c1, f_heap a b d hn hab hb]
      rfl
    have c2 : ¬ (L == 0) = true := by simpa using hL
    have step2 : ∃ (L1 : Int) (d1 : Array Int), (if (!wb) = true then (F_slices_breakPatternsOrdered_uint64 d.toList (a : Int) (b : Int)).bind fun t11 => (some (IntKind.wrap .i64 (L - 1), t11)) else some (L, d.toList)) = some (L1, d1.toList) ∧ PermIn a b d d1 ∧ 0 ≤ L1 ∧ L1 ≤ 1000 := by
      cases wb with
      | true => exact ⟨L, d, rfl, permIn_refl d a b, hL0, hL1⟩
      | false =>
        obtain ⟨d1, k1, k2⟩ := f_break a b d hn hab hb
        refine ⟨L - 1, d1, ?_, k2, by omega, by omega⟩
        rw [k1, wr (by omega)]
        rfl
    obtain ⟨L1, d1, s2, p1, hL2, hL3⟩ := step2
    have n1 : d1.size = d.size := p1.1
    obtain ⟨p0, h, s3, k3, k3'⟩ := f_pivot d1 a b (by omega) (by omega) (by omega)
    have step3 : ∃ (p : Nat) (hnt : Int) (d2 : Array Int), (if (h == 2) = true then (F_slices_reverseRangeOrdered_uint64 d1.toList (a : Int) (b : Int)).bind fun t10 => (some (IntKind.wrap .i64 ((IntKind.wrap .i64 ((b : Int) - 1)) - (IntKind.wrap .i64 ((p0 : Int) - (a : Int)))), 1, t10)) else some ((p0 : Int), h, d1.toList)) = some ((p : Int), hnt, d2.toList) ∧ PermIn a b d1 d2 ∧ a ≤ p ∧ p < b := by
      by_cases hh : (h == 2) = true
      · rw [if_pos hh, f_reverse a b d1 (by omega) (by omega) (by omega)]
        refine ⟨b - 1 - (p0 - a), 1, reverseRange d1 a b, ?_, reverseRange_holds d1 a b hab (by omega), by omega, by omega⟩
        simp (disch := omega) only [Option.bind_some, wr]
        congr 2
        omega
      · rw [if_neg hh]
        exact ⟨p0, h, d1, rfl, permIn_refl _ _ _, k3, k3'⟩
    obtain ⟨p, hnt, d2, s4, p2, hp1, hp2⟩ := step3
    have n2 : d2.size = d.size := by rw [p2.1, n1]
    have p02 : PermIn a b d d2 := permIn_trans _ _ _ a b p1 p2
    have B2 : Go.Sort.Below ltInt a b d2 := Go.Sort.Below.perm hB hb p02
    obtain ⟨z, s5⟩ : ∃ z, (if (wb) = true then if (wp) = true then some (hnt == 1) else some false else some false) = some z := by
      cases wb <;> cases wp <;> exact ⟨_, rfl⟩
    have step6 : (∃ d3 : Array Int, (if (z) = true then (F_slices_partialInsertionSortOrdered_uint64 d2.toList (a : Int) (b : Int)).bind fun t9 => (if (t9.1) = true then some (Sum.inl t9.2) else some (Sum.inr t9.2)) else some (Sum.inr d2.toList) : Option (List Int ⊕ List Int)) = some (Sum.inl d3.toList) ∧ PermIn a b d2 d3 ∧ SortedIn ltInt a b d3) ∨
        (∃ d3 : Array Int, (if (z) = true then (F_slices_partialInsertionSortOrdered_uint64 d2.toList (a : Int) (b : Int)).bind fun t9 => (if (t9.1) = true then some (Sum.inl t9.2) else some (Sum.inr t9.2)) else some (Sum.inr d2.toList) : Option (List Int ⊕ List Int)) = some (Sum.inr d3.toList) ∧ PermIn a b d2 d3) := by
      cases z with
      | false => exact .inr ⟨d2, rfl, permIn_refl _ _ _⟩
      | true =>
        rw [f_partial a b d2 (by omega) (by omega) (by omega)]
        obtain ⟨k1, k2⟩ := partialInsertionSort_holds swo_ltInt d2 a b (by omega) (by omega) B2
        cases hq : (partialInsertionSort ltInt d2 a b).2 with
        | true => exact .inl ⟨_, rfl, k1, k2 hq⟩
        | false => exact .inr ⟨_, rfl, k1⟩
    rcases step6 with ⟨d3, s6, p3, srt⟩ | ⟨d3, s6, p3⟩
    · refine ⟨d3, loopO_end ?_, permIn_trans _ _ _ a b p02 p3, srt⟩
      simp only [F_slices_pdqsortOrdered_uint64_s_b1]
      rw [if_neg c1, if_neg c2, s2]
      simp only [Option.bind_some]
      rw [s3]
      simp only [Option.bind_some]
      rw [s4]
      simp only [Option.bind_some]
      rw [s5]
      simp only [Option.bind_some]
      rw [s6]
      rfl
    have n3 : d3.size = d.size := by rw [p3.1, n2]
    have p03 : PermIn a b d d3 := permIn_trans _ _ _ a b p02 p3
    have B3 : Go.Sort.Below ltInt a b d3 := Go.Sort.Below.perm hB hb p03
    have hl3 : d3.toList.length = d.size := by simpa using n3
    obtain ⟨w, s7, hw⟩ : ∃ w, (if (decide ((a : Int) > 0)) = true then if 0 ≤ (IntKind.wrap .i64 ((a : Int) - 1)) ∧ (IntKind.wrap .i64 ((a : Int) - 1)) < ((List.length d3.toList : Nat) : Int) then (if 0 ≤ (p : Int) ∧ (p : Int) < ((List.length d3.toList : Nat) : Int) then (F_cmp_Less_uint64 (List.getD d3.toList (Int.toNat (IntKind.wrap .i64 ((a : Int) - 1))) 0) (List.getD d3.toList (Int.toNat (p : Int)) 0)).bind fun t8 => (some (!t8)) else none) else none else some false) = some w ∧ (w = true → 0 < a ∧ ltInt d3[a - 1]! d3[p]! = false) := by
      by_cases ha : 0 < a
      · refine ⟨!ltInt d3[a - 1]! d3[p]!, ?_, fun h => ⟨ha, by simpa using h⟩⟩
        have e1 : (a : Int) - 1 = ((a - 1 : Nat) : Int) := by omega
        simp (disch := omega) only [decide_eq_true_eq, if_pos, e1, wr, hl3, Int.toNat_natCast, gd, f_less, Option.bind_some]
      · exact ⟨false, by rw [if_neg (by simp; omega)], fun h => by cases h⟩
    have pre : ∀ X, (∀ (f : Bool → Option ((Int × Int × Int × Bool × Bool × List Int) ⊕ List Int)), (f = fun r6 => if (r6) = true then (F_slices_partitionEqualOrdered_uint64 d3.toList (a : Int) (b : Int) (p : Int)).bind fun t4 => (some (Sum.inl (t4.1, (b : Int), L1, wb, wp, t4.2))) else (F_slices_partitionOrdered_uint64 d3.toList (a : Int) (b : Int) (p : Int)).bind fun t5 => (if (decide ((IntKind.wrap .i64 (t5.1 - (a : Int))) < (IntKind.wrap .i64 ((b : Int) - t5.1)))) = true then (F_slices_pdqsortOrdered_uint64_n fuel t5.2.2 (a : Int) t5.1 L1).bind fun t6 => (some (Sum.inl (IntKind.wrap .i64 (t5.1 + 1), (b : Int), L1, decide ((IntKind.wrap .i64 (t5.1 - (a : Int))) ≥ (IntKind.wrap .i64 (Int.tdiv (IntKind.wrap .i64 ((b : Int) - (a : Int))) 8))), t5.2.1, t6))) else (F_slices_pdqsortOrdered_uint64_n fuel t5.2.2 (IntKind.wrap .i64 (t5.1 + 1)) (b : Int) L1).bind fun t7 => (some (Sum.inl ((a : Int), t5.1, L1, decide ((IntKind.wrap .i64 ((b : Int) - t5.1)) ≥ (IntKind.wrap .i64 (Int.tdiv (IntKind.wrap .i64 ((b : Int) - (a : Int))) 8))), t5.2.1, t7))))) → f w = X) →
        F_slices_pdqsortOrdered_uint64_s_b1 (F_slices_pdqsortOrdered_uint64_n fuel) ((a : Int), (b : Int), L, wb, wp, d.toList) = X := by
      intro X hX
      rw [← hX _ rfl]
      simp only [F_slices_pdqsortOrdered_uint64_s_b1]
      rw [if_neg c1, if_neg c2, s2]
      simp only [Option.bind_some]
      rw [s3]
      simp only [Option.bind_some]
      rw [s4]
      simp only [Option.bind_some]
      rw [s5]
      simp only [Option.bind_some]
      rw [s6]
      simp only [Option.bind_some, Sum.elim_inr]
      rw [s7]
      rfl
    obtain ⟨fu, rfl⟩ : ∃ fu, fuel = fu + 1 := ⟨fuel - 1, by omega⟩
    have call : ∀ (x : Array Int) (u v : Nat), v - u < b - a → u ≤ v → v ≤ x.size → x.size = d.size → Go.Sort.Below ltInt u v x → ∃ d' : Array Int, F_slices_pdqsortOrdered_uint64_n (fu + 1) x.toList (u : Int) (v : Int) L1 = some d'.toList ∧ PermIn u v x d' ∧ SortedIn ltInt u v d' := by
      intro x u v h1 h2 h3 h4 h5
      obtain ⟨d', g1, g2⟩ := ih (m - 1) (by omega) fu (by omega) x u v L1 true true (by omega) h2 h3 (by omega) h5 hL2 hL3
      refine ⟨d', ?_, g2⟩
      show (loopO (F_slices_pdqsortOrdered_uint64_s_b1 (F_slices_pdqsortOrdered_uint64_n fu)) ((u : Int), (v : Int), L1, true, true, x.toList)).bind some = _
      rw [g1]
      rfl
    cases w with
    | true =>
      obtain ⟨ha0, hnl⟩ := hw rfl
      obtain ⟨g1, g2, g3, g4, g5⟩ := round_eq swo_ltInt (partitionEqual_holds _) ha0 hp1 hp2 (by omega) B3 hnl (mid := (partitionEqual ltInt d3 a b p).1) (d4 := (partitionEqual ltInt d3 a b p).2) rfl
      obtain ⟨d', i1, i2, i3⟩ := ih (m - 1) (by omega) (fu + 1) (by omega) (partitionEqual ltInt d3 a b p).2 (partitionEqual ltInt d3 a b p).1 b L1 wb wp (by omega) g2 (by omega) (by omega) g4 hL2 hL3
      obtain ⟨q1, q2⟩ := g5 d' i2 i3
      refine ⟨d', ?_, permIn_trans _ _ _ a b p03 q1, q2⟩
      rw [← i1]
      refine loopO_go (pre _ fun f hf => ?_)
      subst hf
      simp only [if_true]
      rw [f_partitionEqual a b p d3 (by omega) (by omega) (by omega) hp1 hp2]
      rfl
    | false =>
      obtain ⟨g1, g2, g3, gA, gB, g4, g5⟩ := round_part swo_ltInt (partition_holds _) hp1 hp2 (by omega) B3 (mid := (partition ltInt d3 a b p).1) (ap := (partition ltInt d3 a b p).2.1) (d4 := (partition ltInt d3 a b p).2.2) rfl
      have hpt := f_partition a b p d3 (by omega) (by omega) (by omega) hp1 hp2
      generalize (partition ltInt d3 a b p).1 = mid at *
      generalize (partition ltInt d3 a b p).2.2 = d4 at *
      generalize (partition ltInt d3 a b p).2.1 = ap at *
      by_cases hlt : mid - a < b - mid
      · obtain ⟨x, x1, x2, x3⟩ := call d4 a mid (by omega) g1 (by omega) (by omega) gA
        obtain ⟨y1, y2⟩ := g4 x x2 x3
        have xs : x.size = d.size := by rw [x2.1, g3, n3]
        obtain ⟨d', i1, i2, i3⟩ := ih (m - 1) (by omega) (fu + 1) (by omega) x (mid + 1) b L1 (decide ((IntKind.wrap .i64 ((mid : Int) - (a : Int))) ≥ (IntKind.wrap .i64 (Int.tdiv (IntKind.wrap .i64 ((b : Int) - (a : Int))) 8)))) ap (by omega) (by omega) (by omega) (by omega) y1 hL2 hL3
        obtain ⟨q1, q2⟩ := y2 d' i2 i3
        refine ⟨d', ?_, permIn_trans _ _ _ a b p03 q1, q2⟩
        rw [← i1]
        refine loopO_go (pre _ fun f hf => ?_)
        subst hf
        simp only [Bool.false_eq_true, if_false]
        rw [hpt]
        simp only [Option.bind_some]
        rw [if_pos (by rw [wr (by omega), wr (by omega)]; simp; omega), x1]
        simp only [Option.bind_some]
        rw [show IntKind.wrap .i64 ((mid : Int) + 1) = ((mid + 1 : Nat) : Int) by rw [wr (by omega)]; rfl]
      · obtain ⟨x, x1, x2, x3⟩ := call d4 (mid + 1) b (by omega) (by omega) (by omega) (by omega) gB
        obtain ⟨y1, y2⟩ := g5 x x2 x3
        have xs : x.size = d.size := by rw [x2.1, g3, n3]
        obtain ⟨d', i1, i2, i3⟩ := ih (m - 1) (by omega) (fu + 1) (by omega) x a mid L1 (decide ((IntKind.wrap .i64 ((b : Int) - (mid : Int))) ≥ (IntKind.wrap .i64 (Int.tdiv (IntKind.wrap .i64 ((b : Int) - (a : Int))) 8)))) ap (by omega) (by omega) (by omega) (by omega) y1 hL2 hL3
        obtain ⟨q1, q2⟩ := y2 d' i2 i3
        refine ⟨d', ?_, permIn_trans _ _ _ a b p03 q1, q2⟩
        rw [← i1]
        refine loopO_go (pre _ fun f hf => ?_)
        subst hf
        simp only [Bool.false_eq_true, if_false]
        rw [hpt]
        simp only [Option.bind_some]
        rw [if_neg (by rw [wr (by omega), wr (by omega)]; simp; omega)]
        rw [show IntKind.wrap .i64 ((mid : Int) + 1) = ((mid + 1 : Nat) : Int) by rw [wr (by omega)]; rfl, x1]
        simp only [Option.bind_some]

/-- The library's sort at uint64. -/
theorem f_Sort (l : List Int) (hn : l.length ≤ 1152921504606846976) : F_slices_Sort_uint64_uint64 l = some (l.mergeSort fun x y => !ltInt y x) := by
  have hb : bitsLen l.length ≤ 61 := (bitsLen_le_iff _ _).2 (by omega)
  have hs : l.toArray.size = l.length := by simp
  obtain ⟨d', h1, h2, h3⟩ := f_pdqL l.length l.length (Nat.le_refl _) l.toArray 0 l.length ((bitsLen l.length : Nat) : Int) true true (by omega) (by omega) (by omega) (by omega) (.inl rfl) (by omega) (by omega)
  have hu := sorted_unique_holds (lt := ltInt) swo_ltInt (fun x y h1 h2 => by simp only [ltInt, decide_eq_false_iff_not] at h1 h2; omega) l.toArray d' (by rw [hs]; exact h2) (by rw [hs]; exact h3)
  unfold F_slices_Sort_uint64_uint64
  rw [u64_in _ (by omega), f_len _ (by omega)]
  simp only [Option.bind_some]
  have e : F_slices_pdqsortOrdered_uint64 l 0 (l.length : Int) ((bitsLen l.length : Nat) : Int) = some d'.toList := by
    unfold F_slices_pdqsortOrdered_uint64
    rw [show Int.toNat ((l.length : Int) - 0) + 1 = l.length + 1 by omega]
    show (loopO (F_slices_pdqsortOrdered_uint64_s_b1 (F_slices_pdqsortOrdered_uint64_n l.length)) (0, (l.length : Int), ((bitsLen l.length : Nat) : Int), true, true, l)).bind some = _
    have h1' : loopO (F_slices_pdqsortOrdered_uint64_s_b1 (F_slices_pdqsortOrdered_uint64_n l.length)) (0, (l.length : Int), ((bitsLen l.length : Nat) : Int), true, true, l) = some d'.toList := h1
    rw [h1']
    rfl
  rw [e, hu]
  rfl
end Go.Proofs.Ytjnaphniplfpkaa
