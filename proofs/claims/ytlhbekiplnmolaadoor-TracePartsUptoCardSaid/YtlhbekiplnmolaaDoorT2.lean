/- The trace's parts, and whether sights agree: the program's and the reference's are the same. -/
import Derived.Test.YtlhbekiplnmolaaDoorT1
set_option linter.unusedVariables false
set_option linter.unusedSimpArgs false
set_option linter.unusedVariables false
set_option linter.unusedSimpArgs false
namespace Go.Proofs.YtlhbekiplnmolaaDoor
open Go.RowKit Go.IntWalk

/-! ### Whose a sight is -/
def whoS (s : S35.ty) : S63.ty := (s.2.1, (s.2.2.2.1, (s.2.2.1, s.2.2.2.2.1)))
def isOf (a b : S35.ty) : Bool := Sh.eqb S63 (whoS a) (whoS b)
theorem isOf_iff {a b : S35.ty} : isOf a b = true ↔ whoS a = whoS b := eqb_iff (s := S63) rfl _ _
def ofL (l : List S35.ty) (x : S35.ty) : List S35.ty := l.filter fun s => isOf s x
theorem f_of (s : S35.ty) : F_trace_of s = some (whoS s) := rfl
theorem f_whose (a b : S35.ty) : F_congressref26_Whose a b = some (isOf a b) := by
  have e : isOf a b = ((a.2.1 == b.2.1) && ((a.2.2.2.1 == b.2.2.2.1) && ((a.2.2.1 == b.2.2.1) && (a.2.2.2.2.1 == b.2.2.2.2.1)))) := rfl
  rw [e]
  unfold F_congressref26_Whose
  generalize (a.2.1 == b.2.1) = b1
  generalize (a.2.2.1 == b.2.2.1) = b2
  generalize (a.2.2.2.1 == b.2.2.2.1) = b3
  generalize (a.2.2.2.2.1 == b.2.2.2.2.1) = b4
  cases b1 <;> cases b2 <;> cases b3 <;> cases b4 <;> rfl
theorem f_ofT {l : List S35.ty} {x : S35.ty} (hn : l.length ≤ 1000) : F_trace_Of l x = some (ofL l x) := by
  unfold F_trace_Of
  have key : loopO (F_trace_Of_b1 l x) (0, []) = some (ofL l x) := by
    refine loop_to (f := fun i => ((i : Int), ofL (l.take i) x)) (n := l.length) (fun i hi => ?_) ?_
    · unfold F_trace_Of_b1
      rw [if_pos (by simpa using hi), if_pos (by simpa using hi)]
      simp only [f_of, Option.bind_some, Int.toNat_natCast]
      rw [take_succ' (d := S35.dflt) hi]
      have e : ofL (l.take i ++ [l.getD i S35.dflt]) x = ofL (l.take i) x ++ if isOf (l.getD i S35.dflt) x = true then [l.getD i S35.dflt] else [] := by
        simp [ofL, List.filter_cons]
      rw [e]
      have hl : (ofL (l.take i) x).length ≤ i := Nat.le_trans (List.length_filter_le _ _) (List.length_take_le _ _)
      have hw : IntKind.wrap .i64 ((i : Int) + 1) = ((i + 1 : Nat) : Int) := by rw [wr (by omega)]; omega
      show (if isOf (l.getD i S35.dflt) x = true then _ else _) = _
      by_cases h : isOf (l.getD i S35.dflt) x = true
      · rw [if_pos h, if_pos h, if_pos (apOk_s (by omega) (by omega)), hw]
      · rw [if_neg h, if_neg h, hw]
        simp
    · unfold F_trace_Of_b1
      rw [if_neg (by simp), List.take_length]
  rw [key]
  rfl
theorem f_ofR {l : List S35.ty} {x : S35.ty} (hn : l.length ≤ 1000) : F_congressref26_Of l x = some (ofL l x) := by
  unfold F_congressref26_Of
  have key : loopO (F_congressref26_Of_b1 l x) (0, []) = some (ofL l x) := by
    refine loop_to (f := fun i => ((i : Int), ofL (l.take i) x)) (n := l.length) (fun i hi => ?_) ?_
    · unfold F_congressref26_Of_b1
      rw [if_pos (by simpa using hi), if_pos (by simpa using hi)]
      simp only [f_whose, Option.bind_some, Int.toNat_natCast]
      rw [take_succ' (d := S35.dflt) hi]
      have e : ofL (l.take i ++ [l.getD i S35.dflt]) x = ofL (l.take i) x ++ if isOf (l.getD i S35.dflt) x = true then [l.getD i S35.dflt] else [] := by
        simp [ofL, List.filter_cons]
      rw [e]
      have hl : (ofL (l.take i) x).length ≤ i := Nat.le_trans (List.length_filter_le _ _) (List.length_take_le _ _)
      have hw : IntKind.wrap .i64 ((i : Int) + 1) = ((i + 1 : Nat) : Int) := by rw [wr (by omega)]; omega
      by_cases h : isOf (l.getD i S35.dflt) x = true
      · rw [if_pos h, if_pos h, if_pos (by simpa using hi), if_pos (apOk_s (by omega) (by omega)), hw]
      · rw [if_neg h, if_neg h, hw]
        simp
    · unfold F_congressref26_Of_b1
      rw [if_neg (by simp), List.take_length]
  rw [key]
  rfl
theorem f_sights {l : List S35.ty} (hn : l.length ≤ 1000) : F_congressref25_Sights l l = some true := by
  unfold F_congressref25_Sights
  rw [if_neg (by simp)]
  have key : loopO (F_congressref25_Sights_b1 l l) 0 = some (.inr ()) := by
    refine loop_to (f := fun i => (i : Int)) (n := l.length) (fun i hi => ?_) ?_
    · unfold F_congressref25_Sights_b1
      have e : Sh.eqb S35 (l.getD i S35.dflt) (l.getD i S35.dflt) = true := (eqb_iff (s := S35) rfl _ _).2 rfl
      rw [if_pos (by simpa using hi), if_pos (by simpa using hi), if_pos (by simpa using hi)]
      simp only [Int.toNat_natCast, e]
      rw [wr (by omega)]
      rfl
    · unfold F_congressref25_Sights_b1
      rw [if_neg (by simp)]
  rw [key]
  rfl
theorem ofL_len (l : List S35.ty) (x : S35.ty) : (ofL l x).length ≤ l.length := List.length_filter_le _ _
theorem ofL_idem (l : List S35.ty) (x : S35.ty) : ofL (ofL l x) x = ofL l x := by simp [ofL, List.filter_filter]

/-! ### Searching loops -/
theorem loop_find {τ : Type} {body : Int → Option (Int ⊕ (τ ⊕ Unit))} {n : Nat} (p : Nat → Bool) (r : Nat → τ) (h1 : ∀ i : Nat, i < n → body (i : Int) = some (if p i = true then .inr (.inl (r i)) else .inl ((i : Int) + 1))) (h2 : body (n : Int) = some (.inr (.inr ()))) :
    loopO body 0 = some (match (List.range n).find? p with | some i => .inl (r i) | none => .inr ()) := by
  have key : ∀ m i, n - i ≤ m → i ≤ n → loopO body (i : Int) = some (match (List.range' i (n - i)).find? p with | some i => .inl (r i) | none => .inr ()) := by
    intro m
    induction m with
    | zero =>
      intro i a b
      obtain rfl : i = n := by omega
      rw [loopO_end h2]
      simp
    | succ m ih =>
      intro i a b
      by_cases hi : i = n
      · subst hi
        rw [loopO_end h2]
        simp
      · have e : n - i = (n - (i + 1)) + 1 := by omega
        rw [e, List.range'_succ, List.find?_cons]
        have hb := h1 i (by omega)
        cases hp : p i with
        | true =>
          rw [hp, if_pos rfl] at hb
          rw [loopO_end hb]
        | false =>
          rw [hp] at hb
          simp only [Bool.false_eq_true, if_false] at hb
          rw [loopO_go hb]
          exact ih (i + 1) (by omega) (by omega)
  have := key n 0 (by omega) (Nat.zero_le _)
  rwa [Nat.sub_zero, ← List.range_eq_range'] at this
theorem find_none {p : Nat → Bool} {n : Nat} : (List.range n).find? p = none ↔ ∀ i, i < n → p i = false := by simp [List.find?_eq_none]

/-! ### Do sights agree? -/
def contra (a b : S35.ty) : Bool := !(a.2.2.2.2.2.1 != b.2.2.2.2.2.1) && !(a.2.2.2.1 != b.2.2.2.1) && Sh.eqb S27 a.2.2.2.2.2.2.2.2.2.2.1 b.2.2.2.2.2.2.2.2.2.2.1 && !(a.2.2.2.2.2.2.2.2.1 != b.2.2.2.2.2.2.2.2.1) &&
  ((a.2.2.2.2.2.1 == 2) && Sh.eqb S27 a.2.2.2.2.2.2.2.2.2.2.2.1 b.2.2.2.2.2.2.2.2.2.2.2.1 && ((a.2.2.2.2.2.2.2.2.2.1 != b.2.2.2.2.2.2.2.2.2.1) || !(Sg.view a == Sg.view b)) || (a.2.2.2.2.2.1 == 3) && Sh.eqb S29 a.2.2.2.2.2.2.2.2.2.2.2.2.1 b.2.2.2.2.2.2.2.2.2.2.2.2.1 && !(Sg.text a == Sg.text b))
theorem two_three {a : Int} : ¬ ((a == 2) = true ∧ (a == 3) = true) := by simp; omega
set_option maxHeartbeats 2000000 in
theorem f_contra (a b : S35.ty) : F_trace_contradicts a b = some (contra a b) := by
  unfold F_trace_contradicts contra Sg.view Sg.text
  have h23 := two_three (a := a.2.2.2.2.2.1)
  generalize (a.2.2.2.2.2.1 != b.2.2.2.2.2.1) = b1
  generalize (a.2.2.2.1 != b.2.2.2.1) = b2
  generalize Sh.eqb S27 a.2.2.2.2.2.2.2.2.2.2.1 b.2.2.2.2.2.2.2.2.2.2.1 = b3
  generalize (a.2.2.2.2.2.2.2.2.1 != b.2.2.2.2.2.2.2.2.1) = b4
  revert h23
  generalize (a.2.2.2.2.2.1 == 2) = b5
  generalize Sh.eqb S27 a.2.2.2.2.2.2.2.2.2.2.2.1 b.2.2.2.2.2.2.2.2.2.2.2.1 = b6
  generalize (a.2.2.2.2.2.2.2.2.2.1 != b.2.2.2.2.2.2.2.2.2.1) = b7
  generalize (a.2.2.2.2.2.2.2.2.2.2.2.2.2.2 == b.2.2.2.2.2.2.2.2.2.2.2.2.2.2) = b8
  generalize (a.2.2.2.2.2.1 == 3) = b9
  generalize Sh.eqb S29 a.2.2.2.2.2.2.2.2.2.2.2.2.1 b.2.2.2.2.2.2.2.2.2.2.2.2.1 = b10
  generalize (a.2.2.2.2.2.2.2.2.2.2.2.2.2.1 == b.2.2.2.2.2.2.2.2.2.2.2.2.2.1) = b11
  intro h23
  cases b1 <;> cases b2 <;> cases b3 <;> cases b4 <;> first | rfl | skip
  cases b5 <;> cases b9 <;> first | exact absurd ⟨rfl, rfl⟩ h23 | skip
  all_goals first | rfl | skip
  · cases b10 <;> cases b11 <;> rfl
  · cases b6 <;> cases b7 <;> cases b8 <;> rfl
set_option maxHeartbeats 2000000 in
theorem r_contra {l : List S35.ty} {i k : Nat} (hi : i < l.length) (hk : k < i) (hn : l.length ≤ 1000) : F_congressref26_Agree_b2 (i : Int) l (k : Int) = some (if contra (l.getD i S35.dflt) (l.getD k S35.dflt) = true then .inr (.inl false) else .inl ((k : Int) + 1)) := by
  unfold F_congressref26_Agree_b2 contra Sg.view Sg.text
  rw [if_pos (by simpa using hk), if_pos (by simpa using hi), if_pos (by simp; omega), wr (by omega)]
  simp only [Int.toNat_natCast]
  generalize l.getD i S35.dflt = a
  generalize l.getD k S35.dflt = b
  have h23 := two_three (a := a.2.2.2.2.2.1)
  generalize (a.2.2.2.2.2.1 != b.2.2.2.2.2.1) = b1
  generalize (a.2.2.2.1 != b.2.2.2.1) = b2
  generalize Sh.eqb S27 a.2.2.2.2.2.2.2.2.2.2.1 b.2.2.2.2.2.2.2.2.2.2.1 = b3
  generalize (a.2.2.2.2.2.2.2.2.1 != b.2.2.2.2.2.2.2.2.1) = b4
  revert h23
  generalize (a.2.2.2.2.2.1 == 2) = b5
  generalize Sh.eqb S27 a.2.2.2.2.2.2.2.2.2.2.2.1 b.2.2.2.2.2.2.2.2.2.2.2.1 = b6
  generalize (a.2.2.2.2.2.2.2.2.2.1 != b.2.2.2.2.2.2.2.2.2.1) = b7
  generalize (a.2.2.2.2.2.2.2.2.2.2.2.2.2.2 == b.2.2.2.2.2.2.2.2.2.2.2.2.2.2) = b8
  generalize (a.2.2.2.2.2.1 == 3) = b9
  generalize Sh.eqb S29 a.2.2.2.2.2.2.2.2.2.2.2.2.1 b.2.2.2.2.2.2.2.2.2.2.2.2.1 = b10
  generalize (a.2.2.2.2.2.2.2.2.2.2.2.2.2.1 == b.2.2.2.2.2.2.2.2.2.2.2.2.2.1) = b11
  intro h23
  cases b1 <;> cases b2 <;> cases b3 <;> cases b4 <;> first | rfl | skip
  cases b5 <;> cases b9 <;> first | exact absurd ⟨rfl, rfl⟩ h23 | skip
  all_goals first | rfl | skip
  · cases b10 <;> cases b11 <;> rfl
  · cases b6 <;> cases b7 <;> cases b8 <;> rfl
def conAt (l : List S35.ty) (i : Nat) : Bool := ((List.range i).find? fun k => contra (l.getD i S35.dflt) (l.getD k S35.dflt)).isSome
def agreeS (l : List S35.ty) : Bool := ((List.range l.length).find? (conAt l)).isNone
theorem f_agreeT {l : List S35.ty} (hn : l.length ≤ 1000) : F_trace_Agree l = some (agreeS l) := by
  have inner : ∀ i, i < l.length → loopO (F_trace_Agree_b2 (i : Int) l) 0 = some (if conAt l i = true then .inl false else .inr ()) := by
    intro i hi
    have el : List.length (List.drop 0 (List.take (Int.toNat (i : Int)) l)) = i := by simp; omega
    refine (loop_find (n := i) (fun k => contra (l.getD i S35.dflt) (l.getD k S35.dflt)) (fun _ => false) (fun k hk => ?_) ?_).trans (by
      unfold conAt
      cases (List.range i).find? (fun k => contra (l.getD i S35.dflt) (l.getD k S35.dflt)) <;> rfl)
    · unfold F_trace_Agree_b2
      rw [el, if_pos (by simpa using hk), if_pos (by simpa using hk), f_contra, Option.bind_some, wr (by omega)]
      have e : List.getD (List.drop 0 (List.take (Int.toNat (i : Int)) l)) (Int.toNat (k : Int)) S35.dflt = l.getD k S35.dflt := by
        simp [List.getD, List.getElem?_take_of_lt hk]
      rw [e, Int.toNat_natCast]
      split <;> rfl
    · unfold F_trace_Agree_b2
      rw [el, if_neg (by simp)]
  unfold F_trace_Agree
  refine (congrArg (fun o => Option.bind o _) (loop_find (n := l.length) (conAt l) (fun _ => false) (fun i hi => ?_) ?_)).trans (by
    unfold agreeS
    cases (List.range l.length).find? (conAt l) <;> rfl)
  · unfold F_trace_Agree_b1
    rw [if_pos (by simpa using hi), if_pos (by simpa using hi), if_pos ⟨by omega, Nat.zero_le _, by simp; omega⟩, inner i hi, wr (by omega)]
    split <;> rfl
  · unfold F_trace_Agree_b1
    rw [if_neg (by simp)]
theorem f_agreeR {l : List S35.ty} (hn : l.length ≤ 1000) : F_congressref26_Agree l = some (agreeS l) := by
  have inner : ∀ i, i < l.length → loopO (F_congressref26_Agree_b2 (i : Int) l) 0 = some (if conAt l i = true then .inl false else .inr ()) := by
    intro i hi
    refine (loop_find (n := i) (fun k => contra (l.getD i S35.dflt) (l.getD k S35.dflt)) (fun _ => false) (fun k hk => r_contra hi hk hn) ?_).trans (by
      unfold conAt
      cases (List.range i).find? (fun k => contra (l.getD i S35.dflt) (l.getD k S35.dflt)) <;> rfl)
    · unfold F_congressref26_Agree_b2
      rw [if_neg (by simp)]
  unfold F_congressref26_Agree
  refine (congrArg (fun o => Option.bind o _) (loop_find (n := l.length) (conAt l) (fun _ => false) (fun i hi => ?_) ?_)).trans (by
    unfold agreeS
    cases (List.range l.length).find? (conAt l) <;> rfl)
  · unfold F_congressref26_Agree_b1
    rw [if_pos (by simpa using hi), inner i hi, wr (by omega)]
    split <;> rfl
  · unfold F_congressref26_Agree_b1
    rw [if_neg (by simp)]
theorem agree_iff (l : List S35.ty) : agreeS l = true ↔ l.Pairwise fun a b => contra b a = false := by
  unfold agreeS
  rw [Option.isNone_iff_eq_none, find_none, List.pairwise_iff_getElem]
  constructor
  · intro h i j hi hj hij
    have h1 := h j hj
    unfold conAt at h1
    rw [Option.isSome_eq_false_iff, Option.isNone_iff_eq_none, find_none] at h1
    have := h1 i hij
    simpa [List.getD, List.getElem?_eq_getElem hi, List.getElem?_eq_getElem hj] using this
  · intro h j hj
    unfold conAt
    rw [Option.isSome_eq_false_iff, Option.isNone_iff_eq_none, find_none]
    intro i hij
    have := h i j (by omega) hj hij
    simpa [List.getD, List.getElem?_eq_getElem hj, List.getElem?_eq_getElem (show i < l.length by omega)] using this
theorem agree_sub {l m : List S35.ty} (h : m.Sublist l) (ha : agreeS l = true) : agreeS m = true := (agree_iff m).2 (((agree_iff l).1 ha).sublist h)
end Go.Proofs.YtlhbekiplnmolaaDoor
