/- trace.Check by hand: its map of pointers to checkers is told as a list of checkers. -/
import Derived.Test.YtlhbekiplnmolaaDoorZw
import Derived.Test.YtlhbekiplnmolaaDoorEO
set_option linter.unusedVariables false
set_option linter.unusedSimpArgs false
set_option maxRecDepth 100000
set_option linter.unusedVariables false
namespace Go.Proofs.YtlhbekiplnmolaaDoor
open Go.RowKit

abbrev KS := List (S63.ty × P68.ty)
abbrev Bq : Nat := 2000000
def cz : P68.ty := ((0, (0, 0)), (false, ((0, (0, 0)), ([], []))))

/-- The checkers in memory, three labels each. -/
def trip : Nat → KS → AStore
  | _, [] => []
  | B, x :: r => (B, .var 68 O68 (x.2.1, (x.2.2.1, (x.2.2.2.1, (B + 1, B + 2))))) :: (B + 1, .mp 65 S27 (.int .u64) x.2.2.2.2.1) :: (B + 2, .mp 66 S77 (.int .i64) x.2.2.2.2.2) :: trip (B + 3) r
def ents : Nat → KS → List (S63.ty × Nat)
  | _, [] => []
  | B, x :: r => (x.1, B) :: ents (B + 3) r
/-- The checker that is at work: a variable and two maps at given labels. -/
def work3 (V m1 m2 : Nat) (c : P68.ty) : AStore := [(V, .var 68 O68 (c.1, (c.2.1, (c.2.2.1, (m1, m2))))), (m1, .mp 65 S27 (.int .u64) c.2.2.2.1), (m2, .mp 66 S77 (.int .i64) c.2.2.2.2)]
def kn (es : List (S63.ty × Nat)) : Nat × AItem := (1, .mp 60 S63 .ref es)

theorem trip_app : ∀ (B : Nat) (a b : KS), trip B (a ++ b) = trip B a ++ trip (B + 3 * a.length) b
  | B, [], b => by simp [trip]
  | B, x :: a, b => by simp only [List.cons_append, trip, trip_app (B + 3) a b, List.length_cons]; rw [show B + 3 + 3 * a.length = B + 3 * (a.length + 1) by omega]
theorem ents_app : ∀ (B : Nat) (a b : KS), ents B (a ++ b) = ents B a ++ ents (B + 3 * a.length) b
  | B, [], b => by simp [ents]
  | B, x :: a, b => by simp only [List.cons_append, ents, ents_app (B + 3) a b, List.length_cons]; rw [show B + 3 + 3 * a.length = B + 3 * (a.length + 1) by omega]
theorem ents_mem : ∀ {B : Nat} {a : KS} {z : S63.ty × Nat}, z ∈ ents B a → (∃ y ∈ a, z.1 = y.1) ∧ B ≤ z.2 ∧ z.2 < B + 3 * a.length
  | B, x :: a, z, h => by
    rcases List.mem_cons.1 h with rfl | h
    · exact ⟨⟨x, List.mem_cons_self .., rfl⟩, Nat.le_refl _, by simp only [List.length_cons]; omega⟩
    · obtain ⟨⟨y, hy, e⟩, h1, h2⟩ := ents_mem h
      exact ⟨⟨y, List.mem_cons_of_mem _ hy, e⟩, by omega, by simp only [List.length_cons]; omega⟩
theorem trip_labs : ∀ {B : Nat} {a : KS} {l : Nat}, l ∈ storeLabs (trip B a) → B ≤ l ∧ l < B + 3 * a.length
  | B, x :: a, l, h => by
    simp only [trip, storeLabs, List.flatMap_cons, List.mem_append] at h
    rcases h with h | h | h | h
    · have : l = B ∨ l = B + 1 ∨ l = B + 2 := by simpa [AItem.labs, Sh.pers, Sh.labs] using h
      simp only [List.length_cons]; omega
    · have : l = B + 1 := by simpa [AItem.labs, Sh.pers] using h
      simp only [List.length_cons]; omega
    · have : l = B + 2 := by simpa [AItem.labs, Sh.pers] using h
      simp only [List.length_cons]; omega
    · have := trip_labs (B := B + 3) (a := a) (l := l) h
      simp only [List.length_cons]; omega
theorem trip_rn : ∀ (B : Nat) (a : KS), allB AItem.rnB (trip B a) = true
  | _, [] => rfl
  | B, x :: a => by simp only [trip, allB, trip_rn (B + 3) a]; rfl
theorem allB_app {p : AItem → Bool} : ∀ {a b : AStore}, allB p (a ++ b) = (allB p a && allB p b)
  | [], b => by simp [allB]
  | x :: a, b => by simp only [List.cons_append, allB, allB_app, Bool.and_assoc]
/-- Labels of checkers that stay. -/
theorem trip_map {f : Nat → Nat} : ∀ {B : Nat} {a : KS}, (∀ l, B ≤ l → l < B + 3 * a.length → f l = l) → (trip B a).map (fun x => (f x.1, renI f x.2)) = trip B a
  | _, [], _ => rfl
  | B, x :: a, h => by
    have e0 := h B (by omega) (by simp only [List.length_cons]; omega)
    have e1 := h (B + 1) (by omega) (by simp only [List.length_cons]; omega)
    have e2 := h (B + 2) (by omega) (by simp only [List.length_cons]; omega)
    have ih := trip_map (f := f) (B := B + 3) (a := a) fun l h1 h2 => h l (by omega) (by simp only [List.length_cons]; omega)
    simp only [trip, List.map_cons, ih]
    show (f B, AItem.var 68 O68 (x.2.1, (x.2.2.1, (x.2.2.2.1, (f (B + 1), f (B + 2)))))) :: (f (B + 1), AItem.mp 65 S27 (.int .u64) x.2.2.2.2.1) :: (f (B + 2), AItem.mp 66 S77 (.int .i64) x.2.2.2.2.2) :: trip (B + 3) a = _
    rw [e0, e1, e2]
theorem ents_map {f : Nat → Nat} : ∀ {B : Nat} {a : KS}, (∀ l, B ≤ l → l < B + 3 * a.length → f l = l) → (ents B a).map (fun y => (y.1, renT f .ref y.2)) = ents B a
  | _, [], _ => rfl
  | B, x :: a, h => by
    have e0 := h B (by omega) (by simp only [List.length_cons]; omega)
    have ih := ents_map (f := f) (B := B + 3) (a := a) fun l h1 h2 => h l (by omega) (by simp only [List.length_cons]; omega)
    simp only [ents, List.map_cons, ih]
    show (x.1, f B) :: ents (B + 3) a = _
    rw [e0]
theorem kn_labs {es : List (S63.ty × Nat)} {l : Nat} : l ∈ storeLabs [kn es] → l = 1 ∨ ∃ z ∈ es, l = z.2 := by
  intro h
  have : l = 1 ∨ ∃ a b, (a, b) ∈ es ∧ b = l := by simpa [kn, storeLabs, AItem.labs, Sh.pers, Sh.labs] using h
  rcases this with h | ⟨a, z, h, e⟩
  · exact .inl h
  · exact .inr ⟨_, h, e.symm⟩
theorem storeLabs_app (a b : AStore) : storeLabs (a ++ b) = storeLabs a ++ storeLabs b := List.flatMap_append ..

/-- The entries with one checker at work, at label V. -/
def entsV (V : Nat) (a : KS) (x : S63.ty × P68.ty) (b : KS) : List (S63.ty × Nat) := ents Bq a ++ (x.1, V) :: ents (Bq + 3 * a.length + 3) b
def rest (a b : KS) : AStore := trip Bq a ++ trip (Bq + 3 * a.length + 3) b
theorem entsV_mem {V : Nat} {a : KS} {x : S63.ty × P68.ty} {b : KS} {z : S63.ty × Nat} (h : z ∈ entsV V a x b) : z.2 = V ∨ Bq ≤ z.2 := by
  rcases List.mem_append.1 h with h | h
  · exact .inr (ents_mem h).2.1
  rcases List.mem_cons.1 h with rfl | h
  · exact .inl rfl
  · have := (ents_mem h).2.1; exact .inr (by omega)
theorem rest_labs {a b : KS} {l : Nat} (h : l ∈ storeLabs (rest a b)) : Bq ≤ l := by
  unfold rest at h
  rw [storeLabs_app] at h
  rcases List.mem_append.1 h with h | h
  · exact (trip_labs h).1
  · have := (trip_labs h).1; omega
theorem knr_labs {V : Nat} {a : KS} {x : S63.ty × P68.ty} {b : KS} {l : Nat} (h : l ∈ storeLabs (kn (entsV V a x b) :: rest a b)) : l = 1 ∨ l = V ∨ Bq ≤ l := by
  rw [show kn (entsV V a x b) :: rest a b = [kn (entsV V a x b)] ++ rest a b from rfl, storeLabs_app] at h
  rcases List.mem_append.1 h with h | h
  · rcases kn_labs h with h | ⟨z, hz, e⟩
    · exact .inl h
    · subst e; exact .inr (entsV_mem hz)
  · exact .inr (.inr (rest_labs h))
theorem kn_all {ks : KS} {l : Nat} (h : l ∈ storeLabs (kn (ents Bq ks) :: trip Bq ks)) : l = 1 ∨ Bq ≤ l := by
  rw [show kn (ents Bq ks) :: trip Bq ks = [kn (ents Bq ks)] ++ trip Bq ks from rfl, storeLabs_app] at h
  rcases List.mem_append.1 h with h | h
  · rcases kn_labs h with h | ⟨z, hz, e⟩
    · exact .inl h
    · subst e; exact .inr (ents_mem hz).2.1
  · exact .inr (trip_labs h).1
theorem key_lab {F : AStore} {x : Nat × AItem} (h : x ∈ F) : x.1 ∈ storeLabs F := (mem_labs (L := x.1) (it := x.2) h).1

/-! ### The key found or laid -/
def stepKs (key : S63.ty) (ks : KS) : P68.ty × Int := entV S63 key cz ks
theorem findM_none {α : Type} {k : Sh} {key : k.ty} : ∀ {l : List (k.ty × α)} {i : Nat}, (∀ z ∈ l, k.eqb key z.1 = false) → findM k key l i = none
  | [], _, _ => rfl
  | y :: l, i, h => by
    unfold findM
    rw [if_neg (by rw [h y (List.mem_cons_self ..)]; decide)]
    exact findM_none fun z hz => h z (List.mem_cons_of_mem _ hz)
theorem findM_mid {α : Type} {k : Sh} {key : k.ty} : ∀ {a : List (k.ty × α)} {x : k.ty × α} {b : List (k.ty × α)} {i : Nat}, (∀ z ∈ a, k.eqb key z.1 = false) → k.eqb key x.1 = true → findM k key (a ++ x :: b) i = some (i + a.length, x.2)
  | [], x, b, i, _, h => by simp [findM, h]
  | y :: a, x, b, i, ha, h => by
    rw [List.cons_append]
    unfold findM
    rw [if_neg (by rw [ha y (List.mem_cons_self ..)]; decide), findM_mid (fun z hz => ha z (List.mem_cons_of_mem _ hz)) h, List.length_cons]
    congr 2; omega
theorem findM_split {α : Type} {k : Sh} {key : k.ty} : ∀ (l : List (k.ty × α)), (∀ z ∈ l, k.eqb key z.1 = false) ∨ ∃ a x b, l = a ++ x :: b ∧ (∀ z ∈ a, k.eqb key z.1 = false) ∧ k.eqb key x.1 = true
  | [] => .inl fun z h => by cases h
  | y :: l => by
    rcases Bool.eq_false_or_eq_true (k.eqb key y.1) with h | h
    · exact .inr ⟨[], y, l, rfl, fun z h => (by cases h), h⟩
    · rcases findM_split l with g | ⟨a, x, b, e, g1, g2⟩
      · exact .inl fun z hz => (List.mem_cons.1 hz).elim (fun e => e ▸ h) (g z)
      · exact .inr ⟨y :: a, x, b, by rw [e]; rfl, fun z hz => (List.mem_cons.1 hz).elim (fun e => e ▸ h) (g1 z), g2⟩

noncomputable def F_trace_Check_b1 (x0 : List S35.ty) (s1 : Int × KS) : Option ((Int × KS) ⊕ ((Int × Int) ⊕ Unit)) :=
  if (decide (s1.1 < ((List.length x0 : Nat) : Int))) = true then if 0 ≤ s1.1 ∧ s1.1 < ((List.length x0 : Nat) : Int) then (show Option Bool from if (decide (s1.1 > 0)) = true then (if 0 ≤ (IntKind.wrap .i64 (s1.1 - 1)) ∧ (IntKind.wrap .i64 (s1.1 - 1)) < ((List.length x0 : Nat) : Int) then (some (decide (((List.getD x0 (Int.toNat s1.1) S35.dflt).1) < ((List.getD x0 (Int.toNat (IntKind.wrap .i64 (s1.1 - 1))) S35.dflt).1)))) else none) else some false).bind (fun r2 => if (r2) = true then some (Sum.inr (Sum.inl (s1.1, 1))) else (F_trace_of (List.getD x0 (Int.toNat s1.1) S35.dflt)).bind fun t1 => ((F_trace_checker_check (entV S63 t1 cz s1.2).1 (List.getD x0 (Int.toNat s1.1) S35.dflt)).bind fun t2 => (if (t2.1 != 0) = true then some (Sum.inr (Sum.inl (s1.1, t2.1))) else some (Sum.inl (IntKind.wrap .i64 (s1.1 + 1), estM (entV S63 t1 cz s1.2).2 t2.2 (entM S63 t1 cz s1.2)))))) else none else some (Sum.inr (Sum.inr ()))
noncomputable def F_trace_Check (x0 : List S35.ty) : Option (Int × Int) :=
  (loopO (F_trace_Check_b1 x0) (0, [])).bind (Sum.elim some (fun _ => some ((-1), 0)))

section
variable {P : Program} {fn : Func} {n0 : Nat} {b : Base n0} {R : Exit → Act → World → Prop} {k : List KI} {ρ : AEnv} {H : AStore}
/-- An empty map of pointers. -/
theorem run_mapref {L : Nat} {T : TypeId} {k' : Sh} {H2 : AStore} (h : Run P fn b R k ρ ((L, .mp T k' .ref []) :: H2)) : Run P fn b R k ρ ((L, .mp T k' .any []) :: H2) := run_st h fun tmps w ⟨M, φ, ξ, c, e⟩ => ⟨M, φ, ξ, Core.seen (H1 := []) c (fun ⟨⟨a1, a2, a3, a4⟩, g, es, h1, h2, h3, h4⟩ => ⟨⟨a1, rfl, a3, .inr rfl⟩, g, es, h1, h2, h3, by
  revert h4
  cases es.toList with
  | nil => exact fun _ => trivial
  | cons y l => exact fun h => h.elim⟩), e⟩
theorem run_cut2 {σ : Type} {c c2 : Code} (Φ : σ → Prop) (ρf : σ → AEnv) (Hf : σ → AStore) (hk : ∀ s, Φ s → Run P fn b R (.code (Code.sub c2 1) :: k) (ρf s) (Hf s)) (h : (∀ s, Φ s → Run P fn b R (.code (Code.sub c2 1) :: k) (ρf s) (Hf s)) → Run P fn b R (.code c :: .code c2 :: k) ρ H) : Run P fn b R (.code c :: .code c2 :: k) ρ H := h hk
end

/-! ### Labels there and back -/
def fA (B0 V m1 m2 l : Nat) : Nat := if l = B0 then V else if l = B0 + 1 then m1 else if l = B0 + 2 then m2 else l
def gA (B0 V m1 m2 l : Nat) : Nat := if l = V then B0 else if l = m1 then B0 + 1 else if l = m2 then B0 + 2 else l
theorem fA_id {B0 V m1 m2 l : Nat} (h : l < B0 ∨ B0 + 3 ≤ l) : fA B0 V m1 m2 l = l := by unfold fA; rw [if_neg (by omega), if_neg (by omega), if_neg (by omega)]
theorem gA_id {B0 V m1 m2 l : Nat} (h : l ≠ V ∧ l ≠ m1 ∧ l ≠ m2) : gA B0 V m1 m2 l = l := by unfold gA; rw [if_neg h.1, if_neg h.2.1, if_neg h.2.2]
theorem fA_0 (B0 V m1 m2 : Nat) : fA B0 V m1 m2 B0 = V := if_pos rfl
theorem fA_1 (B0 V m1 m2 : Nat) : fA B0 V m1 m2 (B0 + 1) = m1 := by unfold fA; rw [if_neg (by omega), if_pos rfl]
theorem fA_2 (B0 V m1 m2 : Nat) : fA B0 V m1 m2 (B0 + 2) = m2 := by unfold fA; rw [if_neg (by omega), if_neg (by omega), if_pos rfl]
theorem gA_0 (B0 V m1 m2 : Nat) : gA B0 V m1 m2 V = B0 := if_pos rfl
theorem gA_1 {B0 V m1 m2 : Nat} (h : m1 ≠ V) : gA B0 V m1 m2 m1 = B0 + 1 := by unfold gA; rw [if_neg h, if_pos rfl]
theorem gA_2 {B0 V m1 m2 : Nat} (h : m2 ≠ V) (h2 : m2 ≠ m1) : gA B0 V m1 m2 m2 = B0 + 2 := by unfold gA; rw [if_neg h, if_neg h2, if_pos rfl]
theorem gf_A {B0 V m1 m2 l : Nat} (h1 : m1 ≠ V) (h2 : m2 ≠ V) (h3 : m2 ≠ m1) (h : l ≠ V ∧ l ≠ m1 ∧ l ≠ m2) : gA B0 V m1 m2 (fA B0 V m1 m2 l) = l := by
  by_cases q0 : l = B0
  · rw [q0, fA_0, gA_0]
  by_cases q1 : l = B0 + 1
  · rw [q1, fA_1, gA_1 h1]
  by_cases q2 : l = B0 + 2
  · rw [q2, fA_2, gA_2 h2 h3]
  rw [fA_id (by omega), gA_id h]
theorem fg_A {B0 V m1 m2 l : Nat} (h1 : m1 ≠ V) (h2 : m2 ≠ V) (h3 : m2 ≠ m1) (h : l < B0 ∨ B0 + 3 ≤ l) : fA B0 V m1 m2 (gA B0 V m1 m2 l) = l := by
  by_cases q0 : l = V
  · rw [q0, gA_0, fA_0]
  by_cases q1 : l = m1
  · rw [q1, gA_1 h1, fA_1]
  by_cases q2 : l = m2
  · rw [q2, gA_2 h2 h3, fA_2]
  rw [gA_id ⟨q0, q1, q2⟩, fA_id h]

theorem work_map {f : Nat → Nat} {V m1 m2 : Nat} {c : P68.ty} : (work3 V m1 m2 c).map (fun x => (f x.1, renI f x.2)) = work3 (f V) (f m1) (f m2) c := rfl
theorem kn_map {f : Nat → Nat} {es : List (S63.ty × Nat)} : (f (kn es).1, renI f (kn es).2) = (f 1, AItem.mp 60 S63 .ref (es.map fun y => (y.1, renT f .ref y.2))) := rfl
theorem trip_mid (a : KS) (x : S63.ty × P68.ty) (b : KS) : trip Bq (a ++ x :: b) = trip Bq a ++ (work3 (Bq + 3 * a.length) (Bq + 3 * a.length + 1) (Bq + 3 * a.length + 2) x.2 ++ trip (Bq + 3 * a.length + 3) b) := by rw [trip_app]; rfl
theorem ents_mid (a : KS) (x : S63.ty × P68.ty) (b : KS) : ents Bq (a ++ x :: b) = ents Bq a ++ (x.1, Bq + 3 * a.length) :: ents (Bq + 3 * a.length + 3) b := by rw [ents_app]; rfl
theorem rest_lab2 {a b : KS} {l : Nat} (h : l ∈ storeLabs (rest a b)) : Bq ≤ l ∧ (l < Bq + 3 * a.length ∨ Bq + 3 * a.length + 3 ≤ l) := by
  unfold rest at h
  rw [storeLabs_app] at h
  rcases List.mem_append.1 h with h | h
  · have := trip_labs h; exact ⟨this.1, .inl this.2⟩
  · have := trip_labs h; exact ⟨by omega, .inr this.1⟩
theorem entsV_lab2 {V : Nat} {a : KS} {x : S63.ty × P68.ty} {b : KS} {z : S63.ty × Nat} (h : z ∈ entsV V a x b) : z.2 = V ∨ Bq ≤ z.2 ∧ (z.2 < Bq + 3 * a.length ∨ Bq + 3 * a.length + 3 ≤ z.2) := by
  rcases List.mem_append.1 h with h | h
  · have := ents_mem h; exact .inr ⟨this.2.1, .inl this.2.2⟩
  rcases List.mem_cons.1 h with rfl | h
  · exact .inl rfl
  · have := ents_mem h; exact .inr ⟨by omega, .inr this.2.1⟩
theorem renM {f : Nat → Nat} {V : Nat} {a : KS} {x : S63.ty × P68.ty} {b : KS} (h : ∀ l, Bq ≤ l → (l < Bq + 3 * a.length ∨ Bq + 3 * a.length + 3 ≤ l) → f l = l) : (entsV V a x b).map (fun y => (y.1, renT f .ref y.2)) = entsV (f V) a x b := by
  unfold entsV
  rw [List.map_append, List.map_cons, ents_map fun l h1 h2 => h l h1 (.inl h2), ents_map fun l h1 h2 => h l (by omega) (.inr h1)]
  rfl
theorem restM {f : Nat → Nat} {a b : KS} (h : ∀ l, Bq ≤ l → (l < Bq + 3 * a.length ∨ Bq + 3 * a.length + 3 ≤ l) → f l = l) : (rest a b).map (fun x => (f x.1, renI f x.2)) = rest a b := by
  unfold rest
  rw [List.map_append, trip_map fun l h1 h2 => h l h1 (.inl h2), trip_map fun l h1 h2 => h l (by omega) (.inr h1)]
theorem entsV_B (a : KS) (x : S63.ty × P68.ty) (b : KS) : entsV (Bq + 3 * a.length) a x b = ents Bq (a ++ x :: b) := (ents_mid a x b).symm

section
variable {P : Program} {fn : Func} {b : Base 0} {R : Exit → Act → World → Prop} {k : List KI} {ρ : AEnv}
/-- The found checker is brought to work. -/
theorem run_totake {s : S35.ty} {a : KS} {x : S63.ty × P68.ty} {d : KS} (he : ∀ l ∈ envLabs ρ, l = 1 ∨ l = 65) (h : Run P fn b R k ρ ((65, .var 35 S35 s) :: (work3 160 100 120 x.2 ++ kn (entsV 160 a x d) :: rest a d))) :
    Run P fn b R k ρ ((65, .var 35 S35 s) :: kn (ents Bq (a ++ x :: d)) :: trip Bq (a ++ x :: d)) := by
  have hB : 160 < Bq := by decide
  refine run_relab (fA (Bq + 3 * a.length) 160 100 120) (gA (Bq + 3 * a.length) 160 100 120) (fun l hl => gf_A (by decide) (by decide) (by decide) ?_) (fun l hl => gA_id (by rcases he l hl with h | h <;> omega)) (fun l hl => absurd hl (Nat.not_lt_zero l)) ?_ ?_ h
  · rw [show ((65, AItem.var 35 S35 s) :: kn (ents Bq (a ++ x :: d)) :: trip Bq (a ++ x :: d) : AStore) = [(65, .var 35 S35 s)] ++ (kn (ents Bq (a ++ x :: d)) :: trip Bq (a ++ x :: d)) from rfl, storeLabs_app] at hl
    rcases List.mem_append.1 hl with hl | hl
    · have : l = 65 := by simpa [storeLabs, AItem.labs, Sh.pers] using hl
      omega
    · have := kn_all hl; omega
  · simp only [allB, trip_rn]; rfl
  · have hid : ∀ l, Bq ≤ l → (l < Bq + 3 * a.length ∨ Bq + 3 * a.length + 3 ≤ l) → fA (Bq + 3 * a.length) 160 100 120 l = l := fun l _ h => fA_id h
    have e1 : fA (Bq + 3 * a.length) 160 100 120 1 = 1 := fA_id (by omega)
    have e65 : fA (Bq + 3 * a.length) 160 100 120 65 = 65 := fA_id (by omega)
    rw [List.map_cons, List.map_cons, kn_map, ← entsV_B, renM hid, fA_0, e1, trip_mid, List.map_append, List.map_append, work_map, fA_0, fA_1, fA_2]
    have e2 := restM (a := a) (b := d) hid
    unfold rest at e2
    rw [List.map_append] at e2
    have e3 : (trip Bq a).map (fun x => (fA (Bq + 3 * a.length) 160 100 120 x.1, renI (fA (Bq + 3 * a.length) 160 100 120) x.2)) = trip Bq a := trip_map fun l h1 h2 => hid l h1 (.inl h2)
    have e4 : (trip (Bq + 3 * a.length + 3) d).map (fun x => (fA (Bq + 3 * a.length) 160 100 120 x.1, renI (fA (Bq + 3 * a.length) 160 100 120) x.2)) = trip (Bq + 3 * a.length + 3) d := trip_map fun l h1 h2 => hid l (by omega) (.inr h1)
    rw [e3, e4]
    show List.Perm ((fA (Bq + 3 * a.length) 160 100 120 65, AItem.var 35 S35 s) :: kn (entsV 160 a x d) :: _) _
    rw [e65]
    refine List.Perm.cons _ ?_
    refine (List.Perm.cons _ (List.perm_append_comm_assoc _ _ _)).trans ?_
    exact List.perm_middle.symm
/-- The checker that was at work goes back. -/
theorem run_toback {a : KS} {x : S63.ty × P68.ty} {d : KS} {c : P68.ty} (he : ∀ l ∈ envLabs ρ, l = 1) (h : Run P fn b R k ρ (kn (ents Bq (a ++ (x.1, c) :: d)) :: trip Bq (a ++ (x.1, c) :: d))) :
    Run P fn b R k ρ (work3 160 1001040 1001041 c ++ kn (entsV 160 a x d) :: rest a d) := by
  have hB : 1001041 < Bq := by decide
  refine run_relab (gA (Bq + 3 * a.length) 160 1001040 1001041) (fA (Bq + 3 * a.length) 160 1001040 1001041) (fun l hl => fg_A (by decide) (by decide) (by decide) ?_) (fun l hl => fA_id (by have := he l hl; omega)) (fun l hl => absurd hl (Nat.not_lt_zero l)) ?_ ?_ h
  · rw [storeLabs_app] at hl
    rcases List.mem_append.1 hl with hl | hl
    · have : l = 160 ∨ l = 1001040 ∨ l = 1001041 := by
        have hl : l = 160 ∨ l = 1001040 ∨ l = 1001041 ∨ l = 1001040 ∨ l = 1001041 := by simpa [work3, storeLabs, AItem.labs, Sh.pers, Sh.labs] using hl
        omega
      omega
    · rw [show kn (entsV 160 a x d) :: rest a d = [kn (entsV 160 a x d)] ++ rest a d from rfl, storeLabs_app] at hl
      rcases List.mem_append.1 hl with hl | hl
      · rcases kn_labs hl with hl | ⟨z, hz, e⟩
        · omega
        · have := entsV_lab2 hz; omega
      · have := rest_lab2 hl; omega
  · rw [allB_app]
    simp only [allB, rest, allB_app, trip_rn]; rfl
  · have hid : ∀ l, Bq ≤ l → (l < Bq + 3 * a.length ∨ Bq + 3 * a.length + 3 ≤ l) → gA (Bq + 3 * a.length) 160 1001040 1001041 l = l := fun l h1 _ => gA_id (by omega)
    have e1 : gA (Bq + 3 * a.length) 160 1001040 1001041 1 = 1 := gA_id (by decide)
    rw [List.map_append, List.map_cons, work_map, kn_map, renM hid, restM hid, gA_0, gA_1 (by decide), gA_2 (by decide) (by decide), e1]
    show List.Perm (_ ++ kn _ :: _) _
    rw [show entsV (Bq + 3 * a.length) a x d = entsV (Bq + 3 * a.length) a (x.1, c) d from rfl, entsV_B, trip_mid]
    refine List.perm_middle.trans (List.Perm.cons _ ?_)
    exact (List.perm_append_comm_assoc _ _ _)
end

theorem F_all {ks : KS} {n1 : Nat} (h : 2 ≤ n1) : ∀ l ∈ storeLabs (kn (ents Bq ks) :: trip Bq ks), l < n1 ∨ Bq ≤ l := fun l hl => by have := kn_all hl; omega
theorem F_all65 {ks : KS} {s : S35.ty} : ∀ l ∈ storeLabs ((65, AItem.var 35 S35 s) :: kn (ents Bq ks) :: trip Bq ks), l < 100 ∨ Bq ≤ l := fun l hl => by
  rw [show ((65, AItem.var 35 S35 s) :: kn (ents Bq ks) :: trip Bq ks : AStore) = [(65, .var 35 S35 s)] ++ (kn (ents Bq ks) :: trip Bq ks) from rfl, storeLabs_app] at hl
  rcases List.mem_append.1 hl with hl | hl
  · have : l = 65 := by simpa [storeLabs, AItem.labs, Sh.pers] using hl
    omega
  · have := kn_all hl; omega
theorem F_work {a : KS} {x : S63.ty × P68.ty} {d : KS} : ∀ l ∈ storeLabs (kn (entsV 160 a x d) :: rest a d), l < 200 ∨ Bq ≤ l := fun l hl => by have := knr_labs hl; omega
theorem d_nil {F : AStore} : ∀ x ∈ F, (([] : AStore).map Prod.fst).any (Nat.beq x.1) = false := fun _ _ => rfl
theorem d_any {F H' : AStore} (hF : ∀ l ∈ storeLabs F, l = 1 ∨ l = 160 ∨ Bq ≤ l) (hk : ∀ x ∈ F, x.1 ≠ 160) (h : ltB Bq (H'.map Prod.fst) = true) (h1 : (H'.map Prod.fst).any (Nat.beq 1) = false) : ∀ x ∈ F, (H'.map Prod.fst).any (Nat.beq x.1) = false := fun x hx => by
  rw [List.any_eq_false]
  intro y hy e
  have e : x.1 = y := Nat.eq_of_beq_eq_true (by simpa using e)
  have := ltB_mem h y hy
  rcases hF _ (key_lab hx) with q | q | q
  · rw [List.any_eq_false] at h1
    exact h1 y hy (by rw [← e, q]; rfl)
  · exact hk x hx q
  · omega
theorem key_kn {a : KS} {x : S63.ty × P68.ty} {d : KS} : ∀ z ∈ kn (entsV 160 a x d) :: rest a d, z.1 ≠ 160 := fun z hz => by
  have hB : 160 < Bq := by decide
  rcases List.mem_cons.1 hz with rfl | hz
  · exact (by decide : (1 : Nat) ≠ 160)
  · have := rest_labs (key_lab hz); omega
theorem key_all {ks : KS} : ∀ z ∈ kn (ents Bq ks) :: trip Bq ks, z.1 ≠ 160 := fun z hz => by
  have hB : 160 < Bq := by decide
  rcases List.mem_cons.1 hz with rfl | hz
  · exact (by decide : (1 : Nat) ≠ 160)
  · have := (trip_labs (key_lab hz)).1; omega

set_option maxHeartbeats 4000000 in
theorem W_trace_Check {x0 : List S35.ty} {y : Int × Int} (hF0 : F_trace_Check x0 = some y) : Pure Tryd.prog 12 [.v (.sl S35) x0] (.tup [vi y.1, vi y.2]) := by
  unfold F_trace_Check at hF0
  refine pure_of_run @Tryd.call12 @Tryd.func12 rfl rfl fun w M ho => ?_
  refine sq rfl (rg [(0, .v (.sl S35) x0)] [] [] [] 1020000 rfl (by kernel_rfl) c0 (sq rfl (rg [(0, .v (.sl S35) x0), (4, .row 1)] [(1, .mp 60 S63 .any [])] [] [] 1 rfl (by kernel_rfl) c0 (run_mapref (sq rfl (sq rfl ?_))))))
  refine rg [(0, .v (.sl S35) x0), (4, .row 1), (10, .v (.sl S35) x0), (11, vi ((List.length x0 : Nat) : Int)), (12, vi 0)] [(1, .mp 60 S63 .ref [])] [] [] 1020000 rfl (by kernel_rfl) c0 (bk rfl ?_)
  obtain ⟨r1, hl1, hF0⟩ := obd hF0
  refine run_cutx 0 rfl (fun j11 => r1 = Sum.inr j11) (fun j11 => []) (fun j11 => []) (fun j11 h1 => ?_) (fun J1_1 => ?_)
  · subst h1
    replace hF0 := sumR hF0
    refine sq rfl (rg [(2, vi (-1)), (3, vi 0)] [] [] [] 1020000 rfl (by kernel_rfl) c0 ?_)
    obtain rfl := Option.some.inj hF0
    exact ret_pure (q := [vi (-1), vi 0]) [(.int .i64), (.int .i64)] rfl rfl (by kernel_rfl)
  refine run_loop rfl (run_loopO hl1 (fun s1 => [(0, .v (.sl S35) x0), (4, .row 1), (10, .v (.sl S35) x0), (11, vi ((List.length x0 : Nat) : Int)), (12, vi s1.1)]) (fun s1 => kn (ents Bq s1.2) :: trip Bq s1.2) rfl rfl (fun s1 o1 hF1 ih1 hr1 => ?_))
  unfold F_trace_Check_b1 at hF1
  refine run_again (sq rfl ?_)
  refine run_beside (n1 := 100) (B := Bq) (ρ' := [(0, .v (.sl S35) x0), (4, .row 1), (10, .v (.sl S35) x0), (11, vi ((List.length x0 : Nat) : Int)), (12, vi s1.1), (13, vb (decide (s1.1 < ((List.length x0 : Nat) : Int))))]) (H' := []) [] (kn (ents Bq s1.2) :: trip Bq s1.2) rfl rfl (by decide) (by decide) rfl (F_all (by decide)) d_nil (fun b' R' q => rg _ [] [] [] 100 rfl (by kernel_rfl) c0 q) ?_
  refine sq rfl (run_if rfl rfl (fun h2 => ?_) (fun h2 => ?_))
  · replace hF1 := ift h2 hF1
    obtain ⟨h3, hF1⟩ := ifg hF1
    obtain ⟨r2, hF2, hF1⟩ := obd hF1
    refine sk rfl (sq rfl (bk rfl (sq rfl ?_)))
    refine run_beside (n1 := 5) (B := Bq) (ρ' := [(0, .v (.sl S35) x0), (4, .row 1), (5, vi s1.1), (6, .ptr 65 [] 0), (10, .v (.sl S35) x0), (11, vi ((List.length x0 : Nat) : Int)), (12, vi s1.1)]) (H' := [(65, .var 35 S35 (List.getD x0 (Int.toNat s1.1) S35.dflt))]) [] (kn (ents Bq s1.2) :: trip Bq s1.2) rfl rfl (by decide) (by decide) rfl (F_all (by decide)) (d_any (fun l hl => (kn_all hl).imp id .inr) key_all rfl rfl) (fun b' R' q => rg _ _ [] [] 5 rfl (by kernel_rfl) (cc h3 c0) q) ?_
    refine sq rfl (sq rfl ?_)
    refine run_cut (fun r2' => r2 = r2') (fun r2 => [(0, .v (.sl S35) x0), (4, .row 1), (5, vi s1.1), (6, .ptr 65 [] 0), (10, .v (.sl S35) x0), (11, vi ((List.length x0 : Nat) : Int)), (12, vi s1.1), (29, vb r2)]) (fun r2 => (65, .var 35 S35 (List.getD x0 (Int.toNat s1.1) S35.dflt)) :: kn (ents Bq s1.2) :: trip Bq s1.2) (fun r2' h4 => ?_) (fun J2_0 => ?_)
    · subst h4
      refine run_if rfl rfl (fun h4 => ?_) (fun h4 => ?_)
      · replace hF1 := ift h4 hF1
        refine sq rfl (run_sub (H' := []) (List.nil_sublist _) (rg [(2, vi s1.1), (3, vi 1)] [] [] [] 1020000 rfl (by kernel_rfl) c0 ?_))
        have e1 := inrI hr1 hF1
        subst e1
        replace hF0 := sumL hF0
        obtain rfl := Option.some.inj hF0
        exact ret_pure (q := [vi s1.1, vi 1]) [(.int .i64), (.int .i64)] rfl rfl (by kernel_rfl)
      replace hF1 := ifn h4 hF1
      obtain ⟨t1, h5, hF1⟩ := obd hF1
      obtain ⟨t2, h6, hF1⟩ := obd hF1
      refine sk rfl (sq rfl ?_)
      refine run_cut2 (fun q : KS × (S63.ty × P68.ty) × KS => entV S63 t1 cz s1.2 = (q.2.1.2, ((q.1.length : Nat) : Int)) ∧ entM S63 t1 cz s1.2 = q.1 ++ q.2.1 :: q.2.2) (fun q => [(0, .v (.sl S35) x0), (4, .row 1), (5, vi s1.1), (6, .ptr 65 [] 0), (7, .ptr 160 [] 0), (10, .v (.sl S35) x0), (11, vi ((List.length x0 : Nat) : Int)), (12, vi s1.1)]) (fun q => (65, .var 35 S35 (List.getD x0 (Int.toNat s1.1) S35.dflt)) :: (work3 160 100 120 q.2.1.2 ++ kn (entsV 160 q.1 q.2.1 q.2.2) :: rest q.1 q.2.2)) (fun q hq => ?_) (fun J => ?_)
      · obtain ⟨a, x, d⟩ := q
        obtain ⟨q1, q2⟩ := hq
        have hs : estM (entV S63 t1 cz s1.2).2 t2.2 (entM S63 t1 cz s1.2) = a ++ (x.1, t2.2) :: d := by
          rw [q1, q2]
          unfold estM
          simp
        rw [hs] at hF1
        rw [q1] at h6
        refine sq rfl ?_
        refine run_beside (n1 := 200) (B := Bq) (ρ' := [(0, .v (.sl S35) x0), (4, .row 1), (5, vi s1.1), (8, vi t2.1), (10, .v (.sl S35) x0), (11, vi ((List.length x0 : Nat) : Int)), (12, vi s1.1)]) (H' := work3 160 1001040 1001041 t2.2) ((65, .var 35 S35 (List.getD x0 (Int.toNat s1.1) S35.dflt)) :: work3 160 100 120 x.2) (kn (entsV 160 a x d) :: rest a d) rfl rfl (by decide) (by decide) rfl F_work (d_any (fun l hl => knr_labs hl) key_kn rfl rfl) (fun b' R' q => rg _ _ [(2, ⟨[.v .unit, .v S35], vi t2.1, some ([160, 100, 120], [(0, .var 68 O68 (t2.2.1, (t2.2.2.1, (t2.2.2.2.1, (1000000, 1000001))))), (1000000, .mp 65 S27 (.int .u64) t2.2.2.2.2.1), (1000001, .mp 66 S77 (.int .i64) t2.2.2.2.2.2)])⟩)] [] 1000 rfl (by kernel_rfl) (cc (W_trace_checker_check h6) c0) q) ?_
        refine run_toback (by intro l hl; simpa [envLabs, AVal.labs, Sh.pers] using hl) (sq rfl ?_)
        refine run_beside (n1 := 100) (B := Bq) (ρ' := [(0, .v (.sl S35) x0), (4, .row 1), (5, vi s1.1), (8, vi t2.1), (10, .v (.sl S35) x0), (11, vi ((List.length x0 : Nat) : Int)), (12, vi s1.1), (49, vb (t2.1 != 0))]) (H' := []) [] (kn (ents Bq (a ++ (x.1, t2.2) :: d)) :: trip Bq (a ++ (x.1, t2.2) :: d)) rfl rfl (by decide) (by decide) rfl (F_all (by decide)) d_nil (fun b' R' q => rg _ [] [] [] 100 rfl (by kernel_rfl) c0 q) ?_
        refine run_if rfl rfl (fun h10 => ?_) (fun h10 => ?_)
        · replace hF1 := ift h10 hF1
          refine sq rfl (run_sub (H' := []) (List.nil_sublist _) (rg [(2, vi s1.1), (3, vi t2.1)] [] [] [] 1020000 rfl (by kernel_rfl) c0 ?_))
          have e1 := inrI hr1 hF1
          subst e1
          replace hF0 := sumL hF0
          obtain rfl := Option.some.inj hF0
          exact ret_pure (q := [vi s1.1, vi t2.1]) [(.int .i64), (.int .i64)] rfl rfl (by kernel_rfl)
        · replace hF1 := ifn h10 hF1
          refine sk rfl (eb ?_)
          refine run_beside (n1 := 100) (B := Bq) (ρ' := [(0, .v (.sl S35) x0), (4, .row 1), (10, .v (.sl S35) x0), (11, vi ((List.length x0 : Nat) : Int)), (12, vi (IntKind.wrap .i64 (s1.1 + 1)))]) (H' := []) [] (kn (ents Bq (a ++ (x.1, t2.2) :: d)) :: trip Bq (a ++ (x.1, t2.2) :: d)) rfl rfl (by decide) (by decide) rfl (F_all (by decide)) d_nil (fun b' R' q => rg _ [] [] [] 100 rfl (by kernel_rfl) c0 q) ?_
          exact ih1 _ (Option.some.inj hF1).symm
      rcases findM_split (k := S63) (key := t1) s1.2 with hn | ⟨a, x, d, e, g1, g2⟩
      · have f1 : findM S63 t1 s1.2 0 = none := findM_none hn
        have f2 : findM S63 t1 (ents Bq s1.2) 0 = none := findM_none fun z hz => by
          obtain ⟨⟨y, hy, e⟩, _⟩ := ents_mem hz
          rw [e]; exact hn y hy
        refine rgV [(7, .nilp), (34, .nilp), (33, .v S63 t1), (32, .v S35 (List.getD x0 (Int.toNat s1.1) S35.dflt)), (31, .row 1)] [(2, ⟨[.v S35], .v S63 t1, none⟩), (3, ⟨[], .nilp, none⟩)] [] 200 rfl (by kernel_rfl) (cc (W_trace_of h5) (cc f2 c0)) ?_
        refine tmE (ρ' := [(0, .v (.sl S35) x0), (4, .row 1), (5, vi s1.1), (6, .ptr 65 [] 0), (7, .nilp), (10, .v (.sl S35) x0), (11, vi ((List.length x0 : Nat) : Int)), (12, vi s1.1)]) (by kernel_rfl) (sq rfl (sq rfl ?_))
        refine run_beside (n1 := 100) (B := Bq) (ρ' := [(0, .v (.sl S35) x0), (4, .row 1), (5, vi s1.1), (6, .ptr 65 [] 0), (10, .v (.sl S35) x0), (11, vi ((List.length x0 : Nat) : Int)), (12, vi s1.1), (36, vb true)]) (H' := []) [] ((65, .var 35 S35 (List.getD x0 (Int.toNat s1.1) S35.dflt)) :: kn (ents Bq s1.2) :: trip Bq s1.2) rfl rfl (by decide) (by decide) rfl F_all65 d_nil (fun b' R' q => rg _ _ [] [] 100 rfl (by kernel_rfl) c0 q) ?_
        refine run_if rfl rfl (fun _ => sq rfl ?_) (fun h => by cases h)
        refine run_beside (n1 := 100) (B := Bq) (ρ' := [(0, .v (.sl S35) x0), (4, .row 1), (5, vi s1.1), (6, .ptr 65 [] 0), (7, .ptr 160 [] 0), (10, .v (.sl S35) x0), (11, vi ((List.length x0 : Nat) : Int)), (12, vi s1.1)]) (H' := (65, .var 35 S35 (List.getD x0 (Int.toNat s1.1) S35.dflt)) :: work3 160 100 120 cz) [(65, .var 35 S35 (List.getD x0 (Int.toNat s1.1) S35.dflt))] (kn (ents Bq s1.2) :: trip Bq s1.2) rfl rfl (by decide) (by decide) rfl (F_all (by decide)) (d_any (fun l hl => (kn_all hl).imp id .inr) key_all rfl rfl) (fun b' R' q => rg _ _ [] [] 100 rfl (by kernel_rfl) c0 q) ?_
        refine rgW [(44, .ptr 160 [] 0), (43, .v S63 t1), (42, .v S35 (List.getD x0 (Int.toNat s1.1) S35.dflt)), (41, .row 1)] ((65, .var 35 S35 (List.getD x0 (Int.toNat s1.1) S35.dflt)) :: (work3 160 100 120 cz ++ kn (updM (α := Nat) S63 t1 160 (ents Bq s1.2)) :: trip Bq s1.2)) [(2, ⟨[.v S35], .v S63 t1, none⟩)] [] 200 rfl (by kernel_rfl) (cc (W_trace_of h5) c0) ?_
        have e3 : updM (α := Nat) S63 t1 160 (ents Bq s1.2) = entsV 160 s1.2 (t1, cz) [] := by unfold updM; rw [f2]; rfl
        have e4 : rest s1.2 [] = trip Bq s1.2 := List.append_nil _
        rw [e3, ← e4]
        exact tmE (by kernel_rfl) (J (s1.2, (t1, cz), []) ⟨by unfold entV; rw [f1], by unfold entM; rw [f1]⟩)
      · rw [e]
        refine run_totake (by intro l hl; simpa [envLabs, AVal.labs, Sh.pers] using hl) ?_
        have f2 : ∃ j, findM (α := Nat) S63 t1 (entsV 160 a x d) 0 = some (j, 160) := ⟨_, findM_mid (fun z hz => by
          obtain ⟨⟨y, hy, e⟩, _⟩ := ents_mem hz
          rw [e]; exact g1 y hy) g2⟩
        refine rgV [(7, .ptr 160 [] 0), (34, .ptr 160 [] 0), (33, .v S63 t1), (32, .v S35 (List.getD x0 (Int.toNat s1.1) S35.dflt)), (31, .row 1)] [(2, ⟨[.v S35], .v S63 t1, none⟩), (3, ⟨[], .ptr 160 [] 0, none⟩)] [] 200 rfl (by kernel_rfl) (cc (W_trace_of h5) (cc f2 c0)) ?_
        refine tmE (ρ' := [(0, .v (.sl S35) x0), (4, .row 1), (5, vi s1.1), (6, .ptr 65 [] 0), (7, .ptr 160 [] 0), (10, .v (.sl S35) x0), (11, vi ((List.length x0 : Nat) : Int)), (12, vi s1.1)]) (by kernel_rfl) (sq rfl (sq rfl ?_))
        refine run_beside (n1 := 200) (B := Bq) (ρ' := [(0, .v (.sl S35) x0), (4, .row 1), (5, vi s1.1), (6, .ptr 65 [] 0), (7, .ptr 160 [] 0), (10, .v (.sl S35) x0), (11, vi ((List.length x0 : Nat) : Int)), (12, vi s1.1), (36, vb false)]) (H' := (65, .var 35 S35 (List.getD x0 (Int.toNat s1.1) S35.dflt)) :: work3 160 100 120 x.2) ((65, .var 35 S35 (List.getD x0 (Int.toNat s1.1) S35.dflt)) :: work3 160 100 120 x.2) (kn (entsV 160 a x d) :: rest a d) rfl rfl (by decide) (by decide) rfl F_work (d_any (fun l hl => knr_labs hl) key_kn rfl rfl) (fun b' R' q => rg _ _ [] [] 200 rfl (by kernel_rfl) c0 q) ?_
        refine run_if rfl rfl (fun h => by cases h) (fun _ => sk rfl ?_)
        exact tmE (by kernel_rfl) (J (a, x, d) ⟨by unfold entV; rw [e, findM_mid g1 g2]; simp, by unfold entM; rw [e, findM_mid g1 g2]⟩)
    rcases Bool.eq_false_or_eq_true (decide (s1.1 > 0)) with h11 | h11
    · replace hF2 := ift h11 hF2
      obtain ⟨h13, hF2⟩ := ifg hF2
      refine run_beside (n1 := 100) (B := Bq) (ρ' := [(0, .v (.sl S35) x0), (4, .row 1), (5, vi s1.1), (6, .ptr 65 [] 0), (10, .v (.sl S35) x0), (11, vi ((List.length x0 : Nat) : Int)), (12, vi s1.1), (29, vb (decide (((List.getD x0 (Int.toNat s1.1) S35.dflt).1) < ((List.getD x0 (Int.toNat (IntKind.wrap .i64 (s1.1 - 1))) S35.dflt).1))))]) (H' := [(65, .var 35 S35 (List.getD x0 (Int.toNat s1.1) S35.dflt))]) [(65, .var 35 S35 (List.getD x0 (Int.toNat s1.1) S35.dflt))] (kn (ents Bq s1.2) :: trip Bq s1.2) rfl rfl (by decide) (by decide) rfl (F_all (by decide)) (d_any (fun l hl => (kn_all hl).imp id .inr) key_all rfl rfl) (fun b' R' q => rG _ _ [] [(2, true)] 200 rfl rfl (by kernel_rfl) (cc h11 (cc h13 c0)) q) ?_
      exact J2_0 _ (Option.some.inj hF2).symm
    · replace hF2 := ifn h11 hF2
      refine run_beside (n1 := 100) (B := Bq) (ρ' := [(0, .v (.sl S35) x0), (4, .row 1), (5, vi s1.1), (6, .ptr 65 [] 0), (10, .v (.sl S35) x0), (11, vi ((List.length x0 : Nat) : Int)), (12, vi s1.1), (29, vb false)]) (H' := [(65, .var 35 S35 (List.getD x0 (Int.toNat s1.1) S35.dflt))]) [(65, .var 35 S35 (List.getD x0 (Int.toNat s1.1) S35.dflt))] (kn (ents Bq s1.2) :: trip Bq s1.2) rfl rfl (by decide) (by decide) rfl (F_all (by decide)) (d_any (fun l hl => (kn_all hl).imp id .inr) key_all rfl rfl) (fun b' R' q => rG _ _ [] [(2, false)] 200 rfl rfl (by kernel_rfl) (cc h11 c0) q) ?_
      exact J2_0 _ (Option.some.inj hF2).symm
  · replace hF1 := ifn h2 hF1
    refine run_exit rfl rfl (run_sub (H' := []) (List.nil_sublist _) (tmE (ρ' := []) (by kernel_rfl) ?_))
    exact J1_1 _ (inrI hr1 hF1).symm
end Go.Proofs.YtlhbekiplnmolaaDoor
