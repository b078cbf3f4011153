/- The checker of a trace: configurations compared, pieces of a view, maps as functions. -/
import Derived.Test.YtlhbekiplnmolaaDoorT2
set_option linter.unusedVariables false
set_option linter.unusedSimpArgs false
set_option linter.unusedVariables false
set_option linter.unusedSimpArgs false
namespace Go.Proofs.YtlhbekiplnmolaaDoor
open Go.RowKit Go.IntWalk

/-! ### Configurations compared -/
def cmpI (x y : Int) : Int := if x < y then -1 else if y < x then 1 else 0
def cmpId (a b : (Int × Int × Int)) : Int := if cmpI a.1 b.1 ≠ 0 then cmpI a.1 b.1 else if cmpI a.2.1 b.2.1 ≠ 0 then cmpI a.2.1 b.2.1 else cmpI a.2.2 b.2.2
theorem cmp_le {a b : (Int × Int × Int)} : cmpId a b ≤ 0 ↔ a.1 < b.1 ∨ a.1 = b.1 ∧ (a.2.1 < b.2.1 ∨ a.2.1 = b.2.1 ∧ a.2.2 ≤ b.2.2) := by
  unfold cmpId cmpI
  repeat' split
  all_goals omega
theorem cmp_trans {a b c : (Int × Int × Int)} (h : cmpId a b ≤ 0) (k : cmpId b c ≤ 0) : cmpId a c ≤ 0 := by
  rw [cmp_le] at *; omega
theorem cmp_total {a b : (Int × Int × Int)} (h : ¬ cmpId a b ≤ 0) : cmpId b a ≤ 0 := by
  rw [cmp_le] at *; omega
theorem cmp_refl (a : (Int × Int × Int)) : cmpId a a ≤ 0 := by rw [cmp_le]; omega
theorem f_cmpI (x y : Int) : F_cmp_Compare_uint32 x y = some (cmpI x y) := by
  unfold F_cmp_Compare_uint32 F_cmp_isNaN_uint32 cmpI
  have e1 : (x != x) = false := by simp
  have e2 : (y != y) = false := by simp
  simp only [e1, e2, Option.bind_some, Bool.false_eq_true, if_false, decide_eq_true_eq]
  by_cases h : x < y
  · rw [if_pos h, if_pos h]
  · rw [if_neg h, if_neg h]
    by_cases k : y < x
    · rw [if_pos k, if_pos k]
    · rw [if_neg k, if_neg k]
theorem f_or (a b c : Int) : F_cmp_Or_int [a, b, c] = some (if a ≠ 0 then a else if b ≠ 0 then b else c) := by
  unfold F_cmp_Or_int
  have h := loop_find (body := F_cmp_Or_int_b1 [a, b, c]) (n := 3) (fun i => List.getD [a, b, c] i 0 != 0) (fun i => List.getD [a, b, c] i 0) (fun i hi => by
    unfold F_cmp_Or_int_b1
    have g : (i : Int) < (([a, b, c].length : Nat) : Int) := by simp; omega
    rw [if_pos (by simpa using g), if_pos ⟨by omega, g⟩, wr (by omega)]
    simp only [Int.toNat_natCast]
    split <;> rfl) (by
    unfold F_cmp_Or_int_b1
    rw [if_neg (by simp)])
  rw [h]
  have e : List.range 3 = [0, 1, 2] := rfl
  rw [e]
  simp only [List.find?_cons, List.getD_cons_zero, List.getD_cons_succ, List.find?_nil]
  by_cases ha : a = 0
  · by_cases hb : b = 0
    · by_cases hc : c = 0
      · simp [ha, hb, hc]
      · have : (c != 0) = true := by simp [hc]
        simp [ha, hb, this]
    · have : (b != 0) = true := by simp [hb]
      simp [ha, hb, this]
  · have : (a != 0) = true := by simp [ha]
    simp [ha, this]
theorem f_cmpT (a b : (Int × Int × Int)) : F_ident_Compare a b = some (cmpId a b) := by
  unfold F_ident_Compare
  simp only [f_cmpI, f_or, Option.bind_some]
  rfl
theorem f_cmpR (a b : (Int × Int × Int)) : F_congressref07_Compare a b = some (cmpId a b) := by
  unfold F_congressref07_Compare F_congressref07_three
  simp only [Option.bind_some]
  have h : ∀ x y : List Int, ∀ r, loopO (F_congressref07_Compare_b1 x y) 0 = r → r = some (if cmpI (x.getD 0 0) (y.getD 0 0) ≠ 0 then .inl (cmpI (x.getD 0 0) (y.getD 0 0)) else if cmpI (x.getD 1 0) (y.getD 1 0) ≠ 0 then .inl (cmpI (x.getD 1 0) (y.getD 1 0)) else if cmpI (x.getD 2 0) (y.getD 2 0) ≠ 0 then .inl (cmpI (x.getD 2 0) (y.getD 2 0)) else .inr ()) := by
    intro x y r hr
    have h := loop_find (body := F_congressref07_Compare_b1 x y) (n := 3) (fun i => cmpI (x.getD i 0) (y.getD i 0) != 0) (fun i => cmpI (x.getD i 0) (y.getD i 0)) (fun i hi => by
      unfold F_congressref07_Compare_b1
      have g : 0 ≤ (i : Int) ∧ (i : Int) < ((3 : Nat) : Int) := by omega
      rw [if_pos (by simpa using (show (i : Int) < 3 by omega)), if_pos g, if_pos g, if_pos g, if_pos g, wr (by omega)]
      simp only [Int.toNat_natCast, decide_eq_true_eq]
      unfold cmpI
      by_cases h1 : x.getD i 0 < y.getD i 0
      · rw [if_pos h1, if_pos h1]; rfl
      · rw [if_neg h1, if_neg h1]
        by_cases h2 : y.getD i 0 < x.getD i 0
        · rw [if_pos h2, if_pos h2]; rfl
        · rw [if_neg h2, if_neg h2]; rfl) (by
      unfold F_congressref07_Compare_b1
      rw [if_neg (by decide)])
    rw [← hr, h]
    have e : List.range 3 = [0, 1, 2] := rfl
    rw [e]
    simp only [List.find?_cons, List.find?_nil]
    by_cases h0 : cmpI (x.getD 0 0) (y.getD 0 0) = 0
    · by_cases h1 : cmpI (x.getD 1 0) (y.getD 1 0) = 0
      · by_cases h2 : cmpI (x.getD 2 0) (y.getD 2 0) = 0
        · rw [if_neg (by simpa using h0), if_neg (by simpa using h1), if_neg (by simpa using h2)]
          simp only [h0, h1, h2]
          rfl
        · have : (cmpI (x.getD 2 0) (y.getD 2 0) != 0) = true := by simpa using h2
          rw [this, if_neg (by simpa using h0), if_neg (by simpa using h1), if_pos h2]
          simp only [h0, h1]
          rfl
      · have : (cmpI (x.getD 1 0) (y.getD 1 0) != 0) = true := by simpa using h1
        rw [this, if_neg (by simpa using h0), if_pos h1]
        simp only [h0]
        rfl
    · have : (cmpI (x.getD 0 0) (y.getD 0 0) != 0) = true := by simpa using h0
      rw [this, if_pos h0]
  rw [h _ _ _ rfl]
  unfold cmpId
  show Option.bind (some (if cmpI a.1 b.1 ≠ 0 then Sum.inl (cmpI a.1 b.1) else if cmpI a.2.1 b.2.1 ≠ 0 then .inl (cmpI a.2.1 b.2.1) else if cmpI a.2.2 b.2.2 ≠ 0 then .inl (cmpI a.2.2 b.2.2) else .inr ())) _ = _
  by_cases h0 : cmpI a.1 b.1 = 0
  · by_cases h1 : cmpI a.2.1 b.2.1 = 0
    · by_cases h2 : cmpI a.2.2 b.2.2 = 0
      · simp [h0, h1, h2]
      · simp [h0, h1, h2]
    · simp [h0, h1]
  · simp [h0]

/-! ### Maps as functions -/
def lookM {α : Type} (k : Sh) (key : k.ty) : List (k.ty × α) → Option α
  | [] => none
  | y :: ys => if k.eqb key y.1 then some y.2 else lookM k key ys
section
variable {α : Type} {k : Sh}
theorem find_look {key : k.ty} : ∀ {l : List (k.ty × α)} {i : Nat}, (findM k key l i).map Prod.snd = lookM k key l
  | [], _ => rfl
  | y :: l, i => by
    unfold findM lookM
    split
    · rfl
    · exact find_look
theorem getM_look {key : k.ty} {d : α} {l : List (k.ty × α)} : getM k key d l = (lookM k key l).getD d := by
  unfold getM
  rw [← find_look (i := 0)]
  cases findM k key l 0 <;> rfl
theorem hasM_look {key : k.ty} {l : List (k.ty × α)} : hasM k key l = (lookM k key l).isSome := by
  unfold hasM
  rw [← find_look (i := 0)]
  cases findM k key l 0 <;> rfl
theorem look_none {key : k.ty} {l : List (k.ty × α)} (h : ∀ z ∈ l, k.eqb key z.1 = false) : lookM k key l = none := by
  rw [← find_look (i := 0), findM_none h]; rfl
theorem lookM_app {key : k.ty} : ∀ {a b : List (k.ty × α)}, lookM k key (a ++ b) = (lookM k key a).or (lookM k key b)
  | [], b => by simp [lookM]
  | y :: a, b => by
    show (if k.eqb key y.1 then some y.2 else lookM k key (a ++ b)) = (if k.eqb key y.1 then some y.2 else lookM k key a).or (lookM k key b)
    split
    · rfl
    · exact lookM_app
theorem look_set (hk : k.cmpB = true) {key k' : k.ty} {a : List (k.ty × α)} {x : k.ty × α} {b : List (k.ty × α)} {u : α} (h1 : ∀ z ∈ a, k.eqb key z.1 = false) (h2 : k.eqb key x.1 = true) :
    lookM k k' (a ++ (x.1, u) :: b) = if k.eqb k' key = true then some u else lookM k k' (a ++ x :: b) := by
  have e : key = x.1 := (eqb_iff hk _ _).1 h2
  by_cases h : k.eqb k' key = true
  · have e2 : k' = key := (eqb_iff hk _ _).1 h
    rw [if_pos h, lookM_app, look_none (by rw [e2]; exact h1)]
    unfold lookM
    rw [if_pos (by rw [e2]; exact h2)]
    rfl
  · rw [if_neg h, lookM_app, lookM_app]
    congr 1
    unfold lookM
    rw [if_neg (by rw [← e]; exact h), if_neg (by rw [← e]; exact h)]
theorem look_new (hk : k.cmpB = true) {key k' : k.ty} {a : List (k.ty × α)} {u : α} (h1 : ∀ z ∈ a, k.eqb key z.1 = false) : lookM k k' (a ++ [(key, u)]) = if k.eqb k' key = true then some u else lookM k k' a := by
  by_cases h : k.eqb k' key = true
  · have e2 : k' = key := (eqb_iff hk _ _).1 h
    rw [if_pos h, lookM_app, look_none (by rw [e2]; exact h1)]
    unfold lookM
    rw [if_pos h]
    rfl
  · rw [if_neg h, lookM_app]
    have : lookM k k' [(key, u)] = none := by unfold lookM; rw [if_neg h]; rfl
    rw [this, Option.or_none]
theorem look_upd (hk : k.cmpB = true) {key k' : k.ty} {u : α} {l : List (k.ty × α)} : lookM k k' (updM k key u l) = if k.eqb k' key = true then some u else lookM k k' l := by
  rcases findM_split (key := key) l with h | ⟨a, x, b, rfl, h1, h2⟩
  · have e : updM k key u l = l ++ [(key, u)] := by unfold updM; rw [findM_none h]
    rw [e, look_new hk h]
  · have e : updM k key u (a ++ x :: b) = a ++ (x.1, u) :: b := by
      unfold updM
      rw [findM_mid h1 h2]
      have : key = x.1 := (eqb_iff hk _ _).1 h2
      simp [this]
    rw [e, look_set hk h1 h2]
theorem ent_val {key : k.ty} {d : α} {l : List (k.ty × α)} : (entV k key d l).1 = (lookM k key l).getD d := by
  unfold entV
  rw [← find_look (i := 0)]
  cases findM k key l 0 <;> rfl
theorem look_est (hk : k.cmpB = true) {key k' : k.ty} {d u : α} {l : List (k.ty × α)} : lookM k k' (estM (entV k key d l).2 u (entM k key d l)) = if k.eqb k' key = true then some u else lookM k k' l := by
  rcases findM_split (key := key) l with h | ⟨a, x, b, rfl, h1, h2⟩
  · have e : estM (entV k key d l).2 u (entM k key d l) = l ++ [(key, u)] := by
      unfold entV entM estM
      rw [findM_none h]
      simp
    rw [e, look_new hk h]
  · have e : estM (entV k key d (a ++ x :: b)).2 u (entM k key d (a ++ x :: b)) = a ++ (x.1, u) :: b := by
      unfold entV entM estM
      rw [findM_mid h1 h2]
      simp
    rw [e, look_set hk h1 h2]
theorem est_len {key : k.ty} {d u : α} {l : List (k.ty × α)} : (estM (entV k key d l).2 u (entM k key d l)).length ≤ l.length + 1 := by
  unfold estM
  have : (entM k key d l).length ≤ l.length + 1 := by unfold entM; split <;> simp
  split <;> simp <;> omega
theorem ent_idx {key : k.ty} {d : α} {l : List (k.ty × α)} : (0 : Int) ≤ (entV k key d l).2 ∧ (entV k key d l).2 < (((entM k key d l).length : Nat) : Int) := by
  rcases findM_split (key := key) l with h | ⟨a, x, b, rfl, h1, h2⟩
  · unfold entV entM
    rw [findM_none h]
    simp; omega
  · unfold entV entM
    rw [findM_mid h1 h2]
    simp; omega
end

/-! ### Pieces of a view -/
def pieceS (s : S35.ty) : Str := Lib.itoa s.2.1 ++ (46 :: (Lib.decDigits s.2.2.2.2.1.toNat ++ [32]))
theorem piece_len {s : S35.ty} (o : SgOk s) : (pieceS s).length ≤ 43 := by
  have := itoa_len o.b
  have := dec_len' o.e
  simp [pieceS]; omega
theorem f_piece {s : S35.ty} (o : SgOk s) : F_trace_piece s = some (pieceS s) := by
  have := itoa_len o.b
  have := dec_len' o.e
  unfold F_trace_piece F_strconv_FormatUint F_strconv_Itoa F_internal_strconv_FormatUint
  simp only [Option.bind_some, if_true]
  rw [if_pos (by show _ ≤ (9223372036854775807 : Nat); simp; omega), if_pos (by show _ ≤ (9223372036854775807 : Nat); simp; omega), if_pos (by show _ ≤ (9223372036854775807 : Nat); simp; omega)]
  simp [pieceS]
def occ (s p : Str) (i : Nat) : Bool := (i == 0 || s.getD (i - 1) 0 == 32) && ((s.take (i + p.length)).drop i == p)
def hasS (s p : Str) : Bool := ((List.range (s.length + 1 - p.length)).find? (occ s p)).isSome
theorem has_iff {s p : Str} : hasS s p = true ↔ ∃ i, i < s.length + 1 - p.length ∧ occ s p i = true := by
  unfold hasS
  rw [List.find?_isSome]
  simp
theorem u8_32 (c : UInt8) : ((((c.toNat : Nat) : Int)) == 32) = (c == 32) := by
  rw [Bool.eq_iff_iff]
  simp only [beq_iff_eq]
  constructor
  · intro h
    apply UInt8.toNat_inj.1
    have : c.toNat = 32 := by omega
    rw [this]; rfl
  · rintro rfl; rfl
theorem f_has {s p : Str} (hs : s.length ≤ 1000000000) (hp : 0 < p.length) (hp2 : p.length ≤ 100) : F_congressref26_Has s p = some (hasS s p) := by
  unfold F_congressref26_Has
  have w1 : ∀ i : Nat, i ≤ s.length + 1 - p.length → IntKind.wrap .i64 ((i : Int) + ((List.length p : Nat) : Int)) = ((i + p.length : Nat) : Int) := fun i hi => by rw [wr (by omega)]; omega
  refine (congrArg (fun o => Option.bind o _) (loop_find (n := s.length + 1 - p.length) (occ s p) (fun _ => true) (fun i hi => ?_) ?_)).trans (by
    unfold hasS
    cases (List.range (s.length + 1 - p.length)).find? (occ s p) <;> rfl)
  · unfold F_congressref26_Has_b1 occ
    rw [w1 i (by omega), if_pos (by simp; omega)]
    have hc : ((0 : Int) ≤ (i : Int) ∧ (0 : Int) ≤ ((i + p.length : Nat) : Int) ∧ Int.toNat (i : Int) ≤ Int.toNat ((i + p.length : Nat) : Int) ∧ Int.toNat ((i + p.length : Nat) : Int) ≤ List.length s) := ⟨by omega, by omega, by omega, by omega⟩
    have hw : IntKind.wrap .i64 ((i : Int) + 1) = (i : Int) + 1 := wr (by omega)
    cases i with
    | zero =>
      rw [if_pos (by rfl), if_pos hc, hw]
      simp only [Option.bind_some, Int.toNat_natCast]
      cases (List.drop 0 (List.take (0 + p.length) s) == p) <;> rfl
    | succ i =>
      rw [if_neg (by simp; omega)]
      have e : IntKind.wrap .i64 (((i + 1 : Nat) : Int) - 1) = ((i : Nat) : Int) := by rw [wr (by omega)]; omega
      rw [e, if_pos (by omega), hw]
      simp only [Int.toNat_natCast, u8_32]
      have e0 : (i + 1 == 0) = false := rfl
      rw [e0, Bool.false_or, Nat.add_sub_cancel]
      simp only [Int.toNat_natCast] at hc
      cases h1 : (s.getD i 0 == 32) with
      | true =>
        rw [if_pos rfl, if_pos hc]
        simp only [Option.bind_some]
        cases (List.drop (i + 1) (List.take (i + 1 + p.length) s) == p) <;> rfl
      | false => rfl
  · unfold F_congressref26_Has_b1
    rw [w1 _ (Nat.le_refl _), if_neg (by simp; omega)]
theorem f_prefix {s p : Str} : F_strings_HasPrefix s p = some (decide (p.length ≤ s.length) && (s.take p.length == p)) := by
  unfold F_strings_HasPrefix F_internal_stringslite_HasPrefix
  by_cases h : p.length ≤ s.length
  · rw [if_pos (by simpa using h), if_pos ⟨by omega, by omega, by simpa using h⟩]
    simp [h]
  · rw [if_neg (by simpa using h)]
    simp [h]
theorem contains_iff {s p : Str} : Lib.contains s p = true ↔ ∃ i, i ≤ s.length ∧ Lib.occAt s p i = true := by
  unfold Lib.contains
  rw [decide_eq_true_eq]
  constructor
  · intro h
    by_cases hn : ∀ j, j ≤ s.length → Lib.occAt s p j = false
    · rw [Lib.index_none hn] at h; omega
    · simp only [Classical.not_forall] at hn
      obtain ⟨j, hj, h2⟩ := hn
      exact ⟨j, hj, by simpa using h2⟩
  · rintro ⟨i, hi, h⟩
    obtain ⟨m, hm⟩ : ∃ m, m = i := ⟨_, rfl⟩
    have key : ∀ n i, i ≤ n → i ≤ s.length → Lib.occAt s p i = true → 0 ≤ Lib.index s p := by
      intro n
      induction n with
      | zero =>
        intro i h1 h2 h3
        rw [Lib.index_first h2 h3 fun j hj => by omega]
        omega
      | succ n ih =>
        intro i h1 h2 h3
        by_cases hall : ∀ j, j < i → Lib.occAt s p j = false
        · rw [Lib.index_first h2 h3 hall]; omega
        · simp only [Classical.not_forall] at hall
          obtain ⟨j, hj, h4⟩ := hall
          exact ih j (by omega) (by omega) (by simpa using h4)
    exact key i i (Nat.le_refl _) hi h
/-- A piece stands in a text just if it begins it or stands behind a blank. -/
theorem has_eq {s p : Str} (hp : 0 < p.length) : hasS s p = ((decide (p.length ≤ s.length) && (s.take p.length == p)) || Lib.contains s (32 :: p)) := by
  rw [Bool.eq_iff_iff, has_iff, Bool.or_eq_true, contains_iff, Bool.and_eq_true, decide_eq_true_eq, beq_iff_eq]
  constructor
  · rintro ⟨i, hi, h⟩
    unfold occ at h
    rw [Bool.and_eq_true, Bool.or_eq_true, beq_iff_eq, beq_iff_eq, beq_iff_eq] at h
    obtain ⟨h1, h2⟩ := h
    cases i with
    | zero => exact .inl ⟨by omega, by simpa using h2⟩
    | succ i =>
      have h1 : s.getD i 0 = 32 := by simpa using h1
      refine .inr ⟨i, by omega, ?_⟩
      rw [Lib.occAt_iff_take _ _ _ (by simp; omega), beq_iff_eq]
      have hd : s.drop i = s[i]'(by omega) :: s.drop (i + 1) := List.drop_eq_getElem_cons (by omega)
      have hg : s[i]'(by omega) = 32 := by simpa [List.getD, List.getElem?_eq_getElem (show i < s.length by omega)] using h1
      rw [hd, hg, List.length_cons, List.take_succ_cons]
      congr 1
      rw [List.drop_take] at h2
      rw [show i + 1 + p.length - (i + 1) = p.length by omega] at h2
      exact h2
  · rintro (⟨h1, h2⟩ | ⟨i, hi, h⟩)
    · refine ⟨0, by omega, ?_⟩
      unfold occ
      simp [h2]
    · have hr : i + (p.length + 1) ≤ s.length := by
        rcases Lib.occAt_room h with h | h
        · simpa using h
        · cases h
      rw [Lib.occAt_iff_take _ _ _ (by simpa using hr), beq_iff_eq] at h
      have hd : s.drop i = s[i]'(by omega) :: s.drop (i + 1) := List.drop_eq_getElem_cons (by omega)
      rw [hd, List.length_cons, List.take_succ_cons] at h
      obtain ⟨h3, h4⟩ := List.cons.inj h
      refine ⟨i + 1, by omega, ?_⟩
      unfold occ
      rw [Bool.and_eq_true, Bool.or_eq_true, beq_iff_eq, beq_iff_eq, beq_iff_eq]
      refine ⟨.inr ?_, ?_⟩
      · simp [List.getD, List.getElem?_eq_getElem (show i < s.length by omega), h3]
      · rw [List.drop_take, show i + 1 + p.length - (i + 1) = p.length by omega]
        exact h4
end Go.Proofs.YtlhbekiplnmolaaDoor
