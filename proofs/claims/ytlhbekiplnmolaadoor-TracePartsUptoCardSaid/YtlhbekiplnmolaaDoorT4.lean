/- The rules of a trace: the reference's rule as a plain function, the checker's as the same one. -/
import Derived.Test.YtlhbekiplnmolaaDoorT3
set_option linter.unusedVariables false
set_option linter.unusedSimpArgs false
set_option linter.unusedVariables false
set_option linter.unusedSimpArgs false
namespace Go.Proofs.YtlhbekiplnmolaaDoor
open Go.RowKit Go.IntWalk

def Sg.kind (s : S35.ty) : Int := s.2.2.2.2.2.1
def Sg.num (s : S35.ty) : Int := s.2.2.2.2.2.2.2.2.1
def Sg.conf (s : S35.ty) : S27.ty := s.2.2.2.2.2.2.2.2.2.2.1
def Sg.from (s : S35.ty) : S29.ty := s.2.2.2.2.2.2.2.2.2.2.2.2.1
def Sg.msg (s : S35.ty) : S77.ty := (Sg.conf s, (Sg.from s, Sg.num s))
def lastC (a : List S35.ty) : Bool × S27.ty := a.foldl (fun acc x => if Sg.kind x == 1 then (true, Sg.conf x) else acc) (false, (0, (0, 0)))
def pLow (s x : S35.ty) : Bool := (Sg.kind x == 1) && ((Sg.kind s == 1) && decide (cmpId (Sg.conf s) (Sg.conf x) < 1))
def pView (s x : S35.ty) : Bool := (Sg.kind x == 2) && (Sh.eqb S27 (Sg.conf x) (Sg.conf s) && decide (Sg.num s ≤ Sg.num x))
def pMsg (s x : S35.ty) : Bool := (Sg.kind x == 3) && (Sh.eqb S27 (Sg.conf x) (Sg.conf s) && (Sh.eqb S29 (Sg.from x) (Sg.from s) && (Sg.num x == Sg.num s)))
/-- The least rule that a sight breaks, with its own ones ahead of it. -/
def ruleS (a : List S35.ty) (s : S35.ty) : Int :=
  if a.any (pLow s) = true then 2
  else if Sg.kind s = 2 then
    (if (lastC a).1 = true ∧ Sh.eqb S27 (Sg.conf s) (lastC a).2 = false then 3 else if a.any (pView s) = true then 4 else if hasS (Sg.view s) (pieceS s) = false then 5 else 0)
  else if Sg.kind s = 3 then
    (if (lastC a).1 = true ∧ Sh.eqb S27 (Sg.conf s) (lastC a).2 = false then 3 else if a.any (pMsg s) = true then 6 else if (Sg.from s).1 ≠ s.2.2.2.2.2.2.2.2.2.1 then 7 else 0)
  else 0

theorem find_any {α : Type} {p : α → Bool} {l : List α} {d : α} : ((List.range l.length).find? fun i => p (l.getD i d)).isSome = l.any p := by
  rw [Bool.eq_iff_iff, List.find?_isSome, List.any_eq_true]
  constructor
  · rintro ⟨i, hi, h⟩
    exact ⟨_, getD_mem (by simpa using hi), h⟩
  · rintro ⟨x, hx, h⟩
    obtain ⟨i, hi, rfl⟩ := List.getElem_of_mem hx
    exact ⟨i, by simpa using hi, by simpa [List.getD, List.getElem?_eq_getElem hi] using h⟩
theorem r_low {a : List S35.ty} {s : S35.ty} (hn : a.length ≤ 1000) : loopO (F_congressref26_Rule_b1 a s) (false, 0, (0, (0, 0))) = some (if a.any (pLow s) = true then .inl 2 else .inr (lastC a)) := by
  have h := loop_fold (l := a) (d := S35.dflt) (mk := fun i (acc : Bool × S27.ty) => (acc.1, (i : Int), acc.2)) (body := F_congressref26_Rule_b1 a s) (τ := Int ⊕ (Bool × S27.ty))
    (step := fun _ x acc => if pLow s x = true then .inr (.inl 2) else .inl (if Sg.kind x == 1 then (true, Sg.conf x) else acc)) (fin := fun acc => .inr acc) (Inv := fun _ _ => True)
    (fun i hi acc _ => ⟨by
      unfold F_congressref26_Rule_b1
      have g : 0 ≤ (i : Int) ∧ (i : Int) < ((a.length : Nat) : Int) := ⟨by omega, by omega⟩
      simp only [Int.toNat_natCast, f_cmpR, Option.bind_some]
      rw [if_pos (by simpa using hi), if_pos g]
      have hw : IntKind.wrap .i64 ((i : Int) + 1) = ((i + 1 : Nat) : Int) := by rw [wr (by omega)]; omega
      rw [if_pos g, if_pos g, hw]
      generalize a.getD i S35.dflt = x
      unfold pLow Sg.kind Sg.conf
      cases h1 : (x.2.2.2.2.2.1 == 1) with
      | false => rfl
      | true =>
        cases h2 : (s.2.2.2.2.2.1 == 1) with
        | false => rfl
        | true =>
          simp only [Bool.true_and, if_true]
          generalize decide (cmpId s.2.2.2.2.2.2.2.2.2.2.1 x.2.2.2.2.2.2.2.2.2.2.1 < 1) = z
          cases z <;> rfl, fun _ _ => trivial⟩)
    (fun acc _ => by
      unfold F_congressref26_Rule_b1
      rw [if_neg (by simp)]) 0 (Nat.zero_le _) (false, (0, (0, 0))) trivial
  refine h.trans ?_
  rw [List.drop_zero]
  unfold lastC
  generalize (false, ((0 : Int), ((0 : Int), (0 : Int)))) = acc
  clear h hn
  have key : ∀ (l : List S35.ty) (i : Nat) (acc : Bool × S27.ty), foldE (fun (_ : Nat) x acc => if pLow s x = true then (.inr (.inl 2) : (Bool × S27.ty) ⊕ (Int ⊕ (Bool × S27.ty))) else .inl (if Sg.kind x == 1 then (true, Sg.conf x) else acc)) (fun acc => .inr acc) i l acc = if l.any (pLow s) = true then .inl 2 else .inr (l.foldl (fun acc x => if Sg.kind x == 1 then (true, Sg.conf x) else acc) acc) := by
    intro l
    induction l with
    | nil => intro i acc; rfl
    | cons x l ih =>
      intro i acc
      unfold foldE
      by_cases h : pLow s x = true
      · rw [if_pos h, if_pos (by simp [h])]
      · rw [if_neg h]
        have e : (x :: l).any (pLow s) = l.any (pLow s) := by simp [h]
        refine (ih (i + 1) _).trans ?_
        by_cases h2 : l.any (pLow s) = true
        · rw [if_pos h2, if_pos (by rw [e]; exact h2)]
        · have h3 : ¬ (x :: l).any (pLow s) = true := by rw [e]; exact h2
          rw [if_neg h2, if_neg h3]
          rfl
  rw [key]
theorem r_view {a : List S35.ty} {s : S35.ty} (hn : a.length ≤ 1000) (hk : Sg.kind s = 2) : loopO (F_congressref26_Rule_b4 a s) 0 = some (if a.any (pView s) = true then .inl 4 else .inr ()) := by
  refine (loop_find (n := a.length) (fun i => pView s (a.getD i S35.dflt)) (fun _ => 4) (fun i hi => ?_) ?_).trans (by
    rw [← find_any (d := S35.dflt)]
    cases (List.range a.length).find? (fun i => pView s (a.getD i S35.dflt)) <;> rfl)
  · show _ = some (if pView s (a.getD (Int.toNat (i : Int)) S35.dflt) = true then _ else _)
    unfold F_congressref26_Rule_b4
    have g : 0 ≤ (i : Int) ∧ (i : Int) < ((a.length : Nat) : Int) := ⟨by omega, by omega⟩
    have k2 : (s.2.2.2.2.2.1 == 2) = true := by simpa [Sg.kind] using hk
    rw [if_pos (by simpa using hi), k2, if_pos g, if_pos g, if_pos g, wr (by omega)]
    generalize a.getD (Int.toNat (i : Int)) S35.dflt = x
    unfold pView Sg.kind Sg.conf Sg.num
    generalize (x.2.2.2.2.2.1 == 2) = b1
    generalize Sh.eqb S27 x.2.2.2.2.2.2.2.2.2.2.1 s.2.2.2.2.2.2.2.2.2.2.1 = b2
    generalize decide (s.2.2.2.2.2.2.2.2.1 ≤ x.2.2.2.2.2.2.2.2.1) = b3
    cases b1 <;> cases b2 <;> cases b3 <;> rfl
  · unfold F_congressref26_Rule_b4
    rw [if_neg (by simp)]
    rfl
theorem r_viewN {a : List S35.ty} {s : S35.ty} (hk : Sg.kind s ≠ 2) : loopO (F_congressref26_Rule_b4 a s) 0 = some (.inr ()) := by
  refine loopO_end ?_
  unfold F_congressref26_Rule_b4
  have k2 : (s.2.2.2.2.2.1 == 2) = false := by simpa [Sg.kind] using hk
  rw [k2]
  split <;> rfl
theorem r_msg {a : List S35.ty} {s : S35.ty} (hn : a.length ≤ 1000) (hk : Sg.kind s = 3) : loopO (F_congressref26_Rule_b6 a s) 0 = some (if a.any (pMsg s) = true then .inl 6 else .inr ()) := by
  refine (loop_find (n := a.length) (fun i => pMsg s (a.getD i S35.dflt)) (fun _ => 6) (fun i hi => ?_) ?_).trans (by
    rw [← find_any (d := S35.dflt)]
    cases (List.range a.length).find? (fun i => pMsg s (a.getD i S35.dflt)) <;> rfl)
  · show _ = some (if pMsg s (a.getD (Int.toNat (i : Int)) S35.dflt) = true then _ else _)
    unfold F_congressref26_Rule_b6
    have g : 0 ≤ (i : Int) ∧ (i : Int) < ((a.length : Nat) : Int) := ⟨by omega, by omega⟩
    have k2 : (s.2.2.2.2.2.1 == 3) = true := by simpa [Sg.kind] using hk
    rw [if_pos (by simpa using hi), k2, if_pos g, if_pos g, if_pos g, if_pos g, wr (by omega)]
    generalize a.getD (Int.toNat (i : Int)) S35.dflt = x
    unfold pMsg Sg.kind Sg.conf Sg.num Sg.from
    generalize (x.2.2.2.2.2.1 == 3) = b1
    generalize Sh.eqb S27 x.2.2.2.2.2.2.2.2.2.2.1 s.2.2.2.2.2.2.2.2.2.2.1 = b2
    generalize Sh.eqb S29 x.2.2.2.2.2.2.2.2.2.2.2.2.1 s.2.2.2.2.2.2.2.2.2.2.2.2.1 = b4
    generalize (x.2.2.2.2.2.2.2.2.1 == s.2.2.2.2.2.2.2.2.1) = b3
    cases b1 <;> cases b2 <;> cases b3 <;> cases b4 <;> rfl
  · unfold F_congressref26_Rule_b6
    rw [if_neg (by simp)]
    rfl
theorem r_msgN {a : List S35.ty} {s : S35.ty} (hk : Sg.kind s ≠ 3) : loopO (F_congressref26_Rule_b6 a s) 0 = some (.inr ()) := by
  refine loopO_end ?_
  unfold F_congressref26_Rule_b6
  have k2 : (s.2.2.2.2.2.1 == 3) = false := by simpa [Sg.kind] using hk
  rw [k2]
  split <;> rfl
structure SgSm (s : S35.ty) : Prop where
  ok : SgOk s
  small : (Sg.view s).length ≤ 1048576
theorem r_has {s : S35.ty} (o : SgSm s) : F_congressref26_Has (Sg.view s) (pieceS s) = some (hasS (Sg.view s) (pieceS s)) := by
  have := piece_len o.ok
  have := o.small
  exact f_has (by omega) (by simp [pieceS]; omega) (by omega)
theorem pieceR {s : S35.ty} (o : SgOk s) : ((F_congressref20_Signed s.2.1).bind fun t1 => (if List.length t1 + List.length ([46] : Str) ≤ maxLen then (F_congressref20_Digits s.2.2.2.2.1).bind fun t2 => (if List.length (t1 ++ ([46] : Str)) + List.length t2 ≤ maxLen then (if List.length ((t1 ++ ([46] : Str)) ++ t2) + List.length ([32] : Str) ≤ maxLen then (F_congressref26_Has (Sg.view s) (((t1 ++ ([46] : Str)) ++ t2) ++ ([32] : Str))).bind fun t3 => (some (!t3)) else none) else none) else none)) = (F_congressref26_Has (Sg.view s) (pieceS s)).bind fun t3 => (some (!t3)) := by
  have := itoa_len o.b
  have := dec_len' o.e
  rw [f_sig20 (i64_b o.b), Option.bind_some, if_pos (by show _ ≤ (9223372036854775807 : Nat); simp; omega), f_dig20 (u64_b o.e), Option.bind_some, if_pos (by show _ ≤ (9223372036854775807 : Nat); simp; omega), if_pos (by show _ ≤ (9223372036854775807 : Nat); simp; omega)]
  have e : ((Lib.itoa s.2.1 ++ ([46] : Str)) ++ Lib.decDigits s.2.2.2.2.1.toNat) ++ ([32] : Str) = pieceS s := by simp [pieceS]
  rw [e]
set_option maxHeartbeats 1000000 in
theorem r_rule {a : List S35.ty} {s : S35.ty} (hn : a.length ≤ 1000) (o : SgSm s) : F_congressref26_Rule a s = some (ruleS a s) := by
  unfold F_congressref26_Rule
  rw [r_low hn, Option.bind_some]
  unfold ruleS
  by_cases h1 : a.any (pLow s) = true
  · rw [if_pos h1, if_pos h1]; rfl
  rw [if_neg h1, if_neg h1]
  simp only [Sum.elim_inr]
  have e : s.2.2.2.2.2.1 = Sg.kind s := rfl
  have ec : s.2.2.2.2.2.2.2.2.2.2.1 = Sg.conf s := rfl
  have ev : s.2.2.2.2.2.2.2.2.2.2.2.2.2.2 = Sg.view s := rfl
  rw [e, ec, ev]
  by_cases k2 : Sg.kind s = 2
  · have e1 : (Sg.kind s != 2) = false := by simp [k2]
    have e2 : (Sg.kind s == 2) = true := by simp [k2]
    have e3 : (Sg.kind s == 3) = false := by simp [k2]
    rw [e1, e2, e3, if_neg (by decide), Option.bind_some, if_neg (by decide), if_pos k2, r_view hn k2, r_msgN (by rw [k2]; decide), if_pos rfl, pieceR o.ok, r_has o]
    cases h3 : (lastC a).1 with
    | false =>
      simp only [Bool.false_eq_true, if_false, Option.bind_some, false_and]
      by_cases h4 : a.any (pView s) = true
      · rw [if_pos h4, if_pos h4]; rfl
      · rw [if_neg h4, if_neg h4]
        cases hasS (Sg.view s) (pieceS s) <;> rfl
    | true =>
      simp only [if_true, Option.bind_some, true_and]
      cases h5 : Sh.eqb S27 (Sg.conf s) (lastC a).2 with
      | false => rfl
      | true =>
        simp only [Bool.not_true, Bool.false_eq_true, if_false, Bool.true_eq_false]
        by_cases h4 : a.any (pView s) = true
        · rw [if_pos h4, if_pos h4]; rfl
        · rw [if_neg h4, if_neg h4]
          cases hasS (Sg.view s) (pieceS s) <;> rfl
  have e1 : (Sg.kind s != 2) = true := by simp [k2]
  have e2 : (Sg.kind s == 2) = false := by simp [k2]
  rw [e1, e2, if_pos rfl, if_neg k2, r_viewN k2]
  by_cases k3 : Sg.kind s = 3
  · have e3 : (Sg.kind s != 3) = false := by simp [k3]
    have e4 : (Sg.kind s == 3) = true := by simp [k3]
    rw [e3, e4, Option.bind_some, if_neg (by decide), if_pos k3, r_msg hn k3]
    have ef : s.2.2.2.2.2.2.2.2.2.2.2.2.1 = Sg.from s := rfl
    rw [ef]
    have h7 : ((Sg.from s).1 != s.2.2.2.2.2.2.2.2.2.1) = decide ((Sg.from s).1 ≠ s.2.2.2.2.2.2.2.2.2.1) := by rw [Bool.eq_iff_iff]; simp
    rw [h7]
    cases h3 : (lastC a).1 with
    | false =>
      simp only [Bool.false_eq_true, if_false, Option.bind_some, false_and, Sum.elim_inr]
      by_cases h4 : a.any (pMsg s) = true
      · rw [if_pos h4, if_pos h4]; rfl
      · rw [if_neg h4, if_neg h4]
        by_cases h8 : (Sg.from s).1 ≠ s.2.2.2.2.2.2.2.2.2.1
        · rw [if_pos h8, decide_eq_true h8]; rfl
        · rw [if_neg h8, decide_eq_false h8]; rfl
    | true =>
      simp only [if_true, Option.bind_some, true_and]
      cases h5 : Sh.eqb S27 (Sg.conf s) (lastC a).2 with
      | false => rfl
      | true =>
        simp only [Bool.not_true, Bool.false_eq_true, if_false, Bool.true_eq_false, Sum.elim_inr, Option.bind_some]
        by_cases h4 : a.any (pMsg s) = true
        · rw [if_pos h4, if_pos h4]; rfl
        · rw [if_neg h4, if_neg h4]
          by_cases h8 : (Sg.from s).1 ≠ s.2.2.2.2.2.2.2.2.2.1
          · rw [if_pos h8, decide_eq_true h8]; rfl
          · rw [if_neg h8, decide_eq_false h8]; rfl
  · have e3 : (Sg.kind s != 3) = true := by simp [k3]
    rw [e3, if_neg k3]
    rfl
end Go.Proofs.YtlhbekiplnmolaaDoor
