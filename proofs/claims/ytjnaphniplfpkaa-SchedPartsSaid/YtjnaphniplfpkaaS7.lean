/- sched.Sessions and sched.Turn as plain functions. -/
import Derived.Test.YtjnaphniplfpkaaS6
set_option linter.unusedVariables false
set_option linter.unusedSimpArgs false
namespace Go.Proofs.Ytjnaphniplfpkaa
open Go.RowKit Go.Sort Go.IntWalk

abbrev EntS := S36.ty
def ses (e : EntS) : Int := e.2.2.2.1
abbrev ge (l : List EntS) (i : Nat) : EntS := List.getD l i S36.dflt
theorem ge_eq (l : List EntS) {i : Nat} (h : i < l.length) : List.getD l i S36.dflt = l[i] := by simp [List.getD, List.getElem?_eq_getElem h]
theorem gi_eq (l : List Int) {i : Nat} (h : i < l.length) : List.getD l i 0 = l[i] := by simp [List.getD, List.getElem?_eq_getElem h]
theorem apOk_of {n b : Nat} (h : n * b ≤ 140737488355328) (hb : 0 < b) : apOk n b := ⟨h, by
  have : n ≤ n * b := Nat.le_mul_of_pos_right n hb
  simp only [maxLen]; omega⟩

/-! ### The least one -/
def minStep (o : Option Int) (s : Int) : Option Int := match o with
  | none => some s
  | some b => if s < b then some s else some b
def leastP (l : List Int) : Option Int := l.foldl minStep none
theorem least_snoc (l : List Int) (s : Int) : leastP (l ++ [s]) = minStep (leastP l) s := by simp [leastP, List.foldl_append]
theorem least_fold : ∀ (l : List Int) (b : Int), ∃ c, l.foldl minStep (some b) = some c ∧ (c = b ∨ c ∈ l) ∧ c ≤ b ∧ ∀ y ∈ l, c ≤ y
  | [], b => ⟨b, rfl, .inl rfl, by omega, fun y hy => by cases hy⟩
  | x :: l, b => by
    simp only [List.foldl_cons, minStep]
    by_cases h : x < b
    · rw [if_pos h]
      obtain ⟨c, h1, h2, h3, h4⟩ := least_fold l x
      refine ⟨c, h1, ?_, by omega, fun y hy => ?_⟩
      · rcases h2 with rfl | h2
        · exact .inr (by simp)
        · exact .inr (List.mem_cons_of_mem _ h2)
      · rcases List.mem_cons.1 hy with rfl | hy
        · exact h3
        · exact h4 y hy
    · rw [if_neg h]
      obtain ⟨c, h1, h2, h3, h4⟩ := least_fold l b
      refine ⟨c, h1, ?_, h3, fun y hy => ?_⟩
      · rcases h2 with rfl | h2
        · exact .inl rfl
        · exact .inr (List.mem_cons_of_mem _ h2)
      · rcases List.mem_cons.1 hy with rfl | hy
        · omega
        · exact h4 y hy
theorem least_none {l : List Int} (h : leastP l = none) : l = [] := by
  cases l with
  | nil => rfl
  | cons x l =>
    obtain ⟨c, h1, _⟩ := least_fold l x
    have : leastP (x :: l) = some c := h1
    rw [this] at h; cases h
theorem least_some {l : List Int} {b : Int} (h : leastP l = some b) : b ∈ l ∧ ∀ y ∈ l, b ≤ y := by
  cases l with
  | nil => cases h
  | cons x l =>
    obtain ⟨c, h1, h2, h3, h4⟩ := least_fold l x
    have h1' : leastP (x :: l) = some c := h1
    rw [h1'] at h
    obtain rfl := Option.some.inj h
    refine ⟨?_, fun y hy => ?_⟩
    · rcases h2 with rfl | h2
      · simp
      · exact List.mem_cons_of_mem _ h2
    · rcases List.mem_cons.1 hy with rfl | hy
      · exact h3
      · exact h4 y hy
theorem least_of {l : List Int} {b : Int} (h1 : b ∈ l) (h2 : ∀ y ∈ l, b ≤ y) : leastP l = some b := by
  cases h : leastP l with
  | none => rw [least_none h] at h1; cases h1
  | some c =>
    obtain ⟨k1, k2⟩ := least_some h
    have := h2 c k1; have := k2 b h1
    congr 1; omega
def nextP (l : List Int) (last : Int) : Option Int := match leastP (l.filter fun s => decide (s > last)) with
  | some s => some s
  | none => leastP l
theorem next_mem {l : List Int} {last s : Int} (h : nextP l last = some s) : s ∈ l := by
  unfold nextP at h
  split at h
  · rename_i b hb
    obtain rfl := Option.some.inj h
    exact (List.mem_filter.1 (least_some hb).1).1
  · exact (least_some h).1
theorem next_none {l : List Int} {last : Int} (h : nextP l last = none) : l = [] := by
  unfold nextP at h
  split at h
  · cases h
  · exact least_none h
def turnP (x : List EntS) (last : Int) : Int × Bool := match nextP (x.map ses) last with
  | none => (0, false)
  | some s => (((x.findIdx fun e => ses e == s : Nat) : Int), true)

/-! ### Places -/
def ixP {α : Type} (p : α → Bool) (l : List α) : Int := if l.findIdx p < l.length then ((l.findIdx p : Nat) : Int) else -1
theorem f_ix64 (p : Int → Bool) (l : List Int) (hn : l.length ≤ 1152921504606846976) : F_slices_IndexFunc_uint64_uint64 l (fun x => some (p x)) = some (ixP p l) := by
  have key : ∀ (m i : Nat), l.length - i ≤ m → i ≤ l.length → (∀ j (h : j < l.length), j < i → p l[j] = false) → ∃ q, loopO (F_slices_IndexFunc_uint64_uint64_b1 l (fun x => some (p x))) (i : Int) = some q ∧ Sum.elim some (fun _ => some (-1)) q = some (ixP p l) := by
    intro m
    induction m with
    | zero =>
      intro i hm hi hp
      refine ⟨_, loopO_end (r := .inr ()) ?_, ?_⟩
      · simp (disch := omega) only [F_slices_IndexFunc_uint64_uint64_b1, decide_eq_true_eq, if_neg]
      · have : l.findIdx p = l.length := List.findIdx_eq_length.2 fun x hx => by
          obtain ⟨j, hj, rfl⟩ := List.getElem_of_mem hx
          exact hp j hj (by omega)
        simp [ixP, this]
    | succ m ih =>
      intro i hm hi hp
      by_cases h : i < l.length
      · cases hpi : p l[i] with
        | true =>
          refine ⟨_, loopO_end (r := .inl (i : Int)) ?_, ?_⟩
          · simp (disch := omega) only [F_slices_IndexFunc_uint64_uint64_b1, decide_eq_true_eq, if_pos, Int.toNat_natCast, gi_eq l h, Option.bind_some, hpi, if_true]
          · have : l.findIdx p = i := (List.findIdx_eq h).2 ⟨hpi, fun j hj => hp j (by omega) hj⟩
            simp [ixP, this, h]
        | false =>
          obtain ⟨q, i1, i2⟩ := ih (i + 1) (by omega) (by omega) (fun j hj h2 => by
            by_cases e : j = i
            · subst e; exact hpi
            · exact hp j hj (by omega))
          refine ⟨q, ?_, i2⟩
          rw [← i1]
          refine loopO_go ?_
          simp (disch := omega) only [F_slices_IndexFunc_uint64_uint64_b1, decide_eq_true_eq, if_pos, Int.toNat_natCast, gi_eq l h, Option.bind_some, hpi, wr]
          rfl
      · refine ⟨_, loopO_end (r := .inr ()) ?_, ?_⟩
        · simp (disch := omega) only [F_slices_IndexFunc_uint64_uint64_b1, decide_eq_true_eq, if_neg]
        · have : l.findIdx p = l.length := List.findIdx_eq_length.2 fun x hx => by
            obtain ⟨j, hj, rfl⟩ := List.getElem_of_mem hx
            exact hp j hj (by omega)
          simp [ixP, this]
  obtain ⟨q, h1, h2⟩ := key _ 0 (Nat.le_refl _) (by omega) (fun j hj h => by omega)
  unfold F_slices_IndexFunc_uint64_uint64
  have h1' : loopO (F_slices_IndexFunc_uint64_uint64_b1 l (fun x => some (p x))) 0 = some q := h1
  rw [h1']
  exact h2
theorem f_ixE (p : EntS → Bool) (l : List EntS) (hn : l.length ≤ 1152921504606846976) : F_slices_IndexFunc_api_Entry_api_Entry l (fun x => some (p x)) = some (ixP p l) := by
  have key : ∀ (m i : Nat), l.length - i ≤ m → i ≤ l.length → (∀ j (h : j < l.length), j < i → p l[j] = false) → ∃ q, loopO (F_slices_IndexFunc_api_Entry_api_Entry_b1 l (fun x => some (p x))) (i : Int) = some q ∧ Sum.elim some (fun _ => some (-1)) q = some (ixP p l) := by
    intro m
    induction m with
    | zero =>
      intro i hm hi hp
      refine ⟨_, loopO_end (r := .inr ()) ?_, ?_⟩
      · simp (disch := omega) only [F_slices_IndexFunc_api_Entry_api_Entry_b1, decide_eq_true_eq, if_neg]
      · have : l.findIdx p = l.length := List.findIdx_eq_length.2 fun x hx => by
          obtain ⟨j, hj, rfl⟩ := List.getElem_of_mem hx
          exact hp j hj (by omega)
        simp [ixP, this]
    | succ m ih =>
      intro i hm hi hp
      by_cases h : i < l.length
      · cases hpi : p l[i] with
        | true =>
          refine ⟨_, loopO_end (r := .inl (i : Int)) ?_, ?_⟩
          · simp (disch := omega) only [F_slices_IndexFunc_api_Entry_api_Entry_b1, decide_eq_true_eq, if_pos, Int.toNat_natCast, ge_eq l h, Option.bind_some, hpi, if_true]
          · have : l.findIdx p = i := (List.findIdx_eq h).2 ⟨hpi, fun j hj => hp j (by omega) hj⟩
            simp [ixP, this, h]
        | false =>
          obtain ⟨q, i1, i2⟩ := ih (i + 1) (by omega) (by omega) (fun j hj h2 => by
            by_cases e : j = i
            · subst e; exact hpi
            · exact hp j hj (by omega))
          refine ⟨q, ?_, i2⟩
          rw [← i1]
          refine loopO_go ?_
          simp (disch := omega) only [F_slices_IndexFunc_api_Entry_api_Entry_b1, decide_eq_true_eq, if_pos, Int.toNat_natCast, ge_eq l h, Option.bind_some, hpi, wr]
          rfl
      · refine ⟨_, loopO_end (r := .inr ()) ?_, ?_⟩
        · simp (disch := omega) only [F_slices_IndexFunc_api_Entry_api_Entry_b1, decide_eq_true_eq, if_neg]
        · have : l.findIdx p = l.length := List.findIdx_eq_length.2 fun x hx => by
            obtain ⟨j, hj, rfl⟩ := List.getElem_of_mem hx
            exact hp j hj (by omega)
          simp [ixP, this]
  obtain ⟨q, h1, h2⟩ := key _ 0 (Nat.le_refl _) (by omega) (fun j hj h => by omega)
  unfold F_slices_IndexFunc_api_Entry_api_Entry
  have h1' : loopO (F_slices_IndexFunc_api_Entry_api_Entry_b1 l (fun x => some (p x))) 0 = some q := h1
  rw [h1']
  exact h2

/-! ### Sessions -/
theorem f_collect (x : List EntS) (hn : x.length * 56 ≤ 140737488355328) : ∀ (m i : Nat) (a : List Int), x.length - i ≤ m → i ≤ x.length → a = (x.take i).map ses → loopO (F_sched_Sessions_b1 x) ((i : Int), a) = some (x.map ses) := by
  intro m
  induction m with
  | zero =>
    intro i a hm hi ha
    subst ha
    rw [List.take_of_length_le (by omega)]
    refine loopO_end ?_
    simp (disch := omega) only [F_sched_Sessions_b1, decide_eq_true_eq, if_neg]
  | succ m ih =>
    intro i a hm hi ha
    by_cases h : i < x.length
    · rw [← ih (i + 1) (a ++ [ses x[i]]) (by omega) (by omega) (by rw [ha, List.take_succ_eq_append_getElem h, List.map_append]; rfl)]
      refine loopO_go ?_
      have hap : apOk (List.length a + 1) 8 := apOk_of (by rw [ha]; simp; omega) (by decide)
      simp (disch := omega) only [F_sched_Sessions_b1, decide_eq_true_eq, if_pos, Int.toNat_natCast, ge_eq x h, wr]
      first
        | rfl
        | (rw [if_pos hap]; rfl)
    · subst ha
      rw [List.take_of_length_le (by omega)]
      refine loopO_end ?_
      simp (disch := omega) only [F_sched_Sessions_b1, decide_eq_true_eq, if_neg]
theorem f_Sessions (x : List EntS) (hn : x.length * 56 ≤ 140737488355328) : ∃ S, F_sched_Sessions x = some S ∧ List.Pairwise (fun a b => a < b) S ∧ ∀ s, s ∈ S ↔ s ∈ x.map ses := by
  have h1 : loopO (F_sched_Sessions_b1 x) (0, []) = some (x.map ses) := f_collect x hn _ 0 [] (Nat.le_refl _) (by omega) rfl
  have hsrt : List.Pairwise (fun a b : Int => a ≤ b) ((x.map ses).mergeSort fun a b => !ltInt b a) := by
    have := List.pairwise_mergeSort (le := fun a b => !ltInt b a) (fun a b c h1 h2 => by simp only [ltInt, Bool.not_eq_true', decide_eq_false_iff_not] at *; omega) (fun a b => by simp only [ltInt, Bool.or_eq_true, Bool.not_eq_true', decide_eq_false_iff_not]; omega) (x.map ses)
    refine this.imp fun h => ?_
    simp only [ltInt, Bool.not_eq_true', decide_eq_false_iff_not] at h
    omega
  obtain ⟨k1, k2⟩ := dd_spec _ hsrt
  refine ⟨_, ?_, k1, fun s => ?_⟩
  · unfold F_sched_Sessions
    rw [h1]
    simp only [Option.bind_some]
    rw [f_Sort _ (by simp; omega)]
    simp only [Option.bind_some]
    rw [f_Compact _ (by simp; omega)]
    rfl
  · rw [k2 s, List.mem_mergeSort]

theorem f_schedTurn (x : List EntS) (last : Int) (hn : x.length * 56 ≤ 140737488355328) : F_sched_Turn x last = some (turnP x last) := by
  obtain ⟨S, h1, h2, h3⟩ := f_Sessions x hn
  have hS : S.length ≤ x.length := by
    have hnd : S.Nodup := h2.imp fun h => by omega
    have := (List.Nodup.length_le_of_subset hnd fun s hs => (h3 s).1 hs)
    simpa using this
  unfold F_sched_Turn
  rw [h1]
  simp only [Option.bind_some]
  have e1 : (fun y => F_sched_Turn_1 y last) = fun y => some (decide (y > last)) := rfl
  have e2 : ∀ s, (fun y => F_sched_Turn_2 y s) = fun y => some (ses y == s) := fun _ => rfl
  cases S with
  | nil =>
    have hx : x.map ses = [] := by
      cases hm : x.map ses with
      | nil => rfl
      | cons a r => have := (h3 a).2 (by rw [hm]; simp); cases this
    have : turnP x last = (0, false) := by unfold turnP; rw [hx]; rfl
    rw [this]
    rfl
  | cons s0 S =>
    rw [if_neg (by first | (simp; done) | (simp; omega)), if_pos (by first | (simp; done) | (simp; omega)), e1, f_ix64 _ _ (by omega)]
    simp only [Option.bind_some]
    have found : ∀ s, s ∈ s0 :: S → ixP (fun e => ses e == s) x = ((x.findIdx fun e => ses e == s : Nat) : Int) := by
      intro s hs
      obtain ⟨e, he, hes⟩ := List.mem_map.1 ((h3 s).1 hs)
      have : x.findIdx (fun e => ses e == s) < x.length := List.findIdx_lt_length_of_exists ⟨e, he, by simp [hes]⟩
      simp [ixP, this]
    have fin : ∀ s, s ∈ s0 :: S → nextP (x.map ses) last = some s → ((F_slices_IndexFunc_api_Entry_api_Entry x (fun y => F_sched_Turn_2 y s)).bind fun t3 => some (t3, true)) = some (turnP x last) := by
      intro s hs hns
      rw [e2, f_ixE _ _ (by omega), found s hs]
      unfold turnP
      rw [hns]
      rfl
    by_cases h : List.findIdx (fun y => decide (y > last)) (s0 :: S) < (s0 :: S).length
    · have hix : ixP (fun y => decide (y > last)) (s0 :: S) = ((List.findIdx (fun y => decide (y > last)) (s0 :: S) : Nat) : Int) := by simp only [ixP]; rw [if_pos h]
      obtain ⟨i, hi, h, hp, hb⟩ : ∃ i, ∃ (_ : List.findIdx (fun y => decide (y > last)) (s0 :: S) = i) (h : i < (s0 :: S).length), decide ((s0 :: S)[i] > last) = true ∧ ∀ j (hj : j < (s0 :: S).length), j < i → decide ((s0 :: S)[j] > last) = false :=
        ⟨_, rfl, h, List.findIdx_getElem (w := h), fun j hj hj2 => by
          have := List.not_of_lt_findIdx hj2
          exact this⟩
      rw [hix, hi]
      rw [if_pos (by simp), if_pos (by omega), Int.toNat_natCast, gi_eq _ h]
      refine fin _ (List.getElem_mem h) ?_
      have : leastP ((x.map ses).filter fun s => decide (s > last)) = some (s0 :: S)[i] := by
        refine least_of (List.mem_filter.2 ⟨(h3 _).1 (List.getElem_mem h), hp⟩) fun y hy => ?_
        obtain ⟨y1, y2⟩ := List.mem_filter.1 hy
        obtain ⟨j, hj, rfl⟩ := List.getElem_of_mem ((h3 y).2 y1)
        rcases Nat.lt_trichotomy j i with hlt | rfl | hgt
        · have := hb j hj hlt; rw [y2] at this; cases this
        · omega
        · have := List.pairwise_iff_getElem.1 h2 i j h hj hgt; omega
      unfold nextP
      rw [this]
    · have hix : ixP (fun y => decide (y > last)) (s0 :: S) = -1 := by simp only [ixP]; rw [if_neg h]
      rw [hix, if_neg (by simp)]
      refine fin s0 (by simp) ?_
      have hlen : List.findIdx (fun y => decide (y > last)) (s0 :: S) = (s0 :: S).length := Nat.le_antisymm List.findIdx_le_length (by omega)
      have hno := List.findIdx_eq_length.1 hlen
      have hf : ((x.map ses).filter fun s => decide (s > last)) = [] := by
        rw [List.filter_eq_nil_iff]
        intro y hy
        have := hno y ((h3 y).2 hy)
        rw [this]; decide
      unfold nextP
      rw [hf]
      refine least_of ((h3 _).1 (by simp)) fun y hy => ?_
      rcases List.mem_cons.1 ((h3 y).2 hy) with rfl | hy
      · omega
      · have := (List.pairwise_cons.1 h2).1 y hy; omega
end Go.Proofs.Ytjnaphniplfpkaa
