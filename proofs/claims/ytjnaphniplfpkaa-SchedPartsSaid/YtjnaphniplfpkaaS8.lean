/- The reference of layer 19 as plain functions. -/
import Derived.Test.YtjnaphniplfpkaaS7
set_option linter.unusedVariables false
set_option linter.unusedSimpArgs false
namespace Go.Proofs.Ytjnaphniplfpkaa
open Go.RowKit Go.Sort Go.IntWalk

def encO : Option Int → Int × Bool
  | none => (0, false)
  | some b => (b, true)
theorem f_least (x : List EntS) (last : Int) (any : Bool) (hn : x.length * 56 ≤ 140737488355328) : F_congressref19_Least x last any = some (encO (leastP ((x.map ses).filter fun s => any || decide (s > last)))) := by
  have key : ∀ (m i : Nat), x.length - i ≤ m → i ≤ x.length → loopO (F_congressref19_Least_b1 x last any) ((encO (leastP (((x.take i).map ses).filter fun s => any || decide (s > last)))).1, (encO (leastP (((x.take i).map ses).filter fun s => any || decide (s > last)))).2, (i : Int)) = some (encO (leastP ((x.map ses).filter fun s => any || decide (s > last)))) := by
    intro m
    induction m with
    | zero =>
      intro i hm hi
      rw [List.take_of_length_le (by omega)]
      refine loopO_end ?_
      simp (disch := omega) only [F_congressref19_Least_b1, decide_eq_true_eq, if_neg]
    | succ m ih =>
      intro i hm hi
      by_cases h : i < x.length
      · rw [← ih (i + 1) (by omega) (by omega), List.take_succ_eq_append_getElem h, List.map_append, List.filter_append]
        refine loopO_go ?_
        simp (disch := omega) only [F_congressref19_Least_b1, decide_eq_true_eq, if_pos, Int.toNat_natCast, ge_eq x h, wr]
        have es : x[i].2.2.2.1 = ses x[i] := rfl
        rw [es]
        simp only [List.map_cons, List.map_nil]
        generalize ses x[i] = s
        generalize (List.filter (fun s => any || decide (s > last)) (List.map ses (List.take i x))) = l
        simp only [List.filter_cons, List.filter_nil]
        cases any with
        | true =>
          simp only [Bool.true_or, if_true, least_snoc]
          cases hl : leastP l with
          | none => simp [encO, minStep]
          | some b =>
            simp only [encO, minStep]
            by_cases hs : s < b <;> simp [hs]
        | false =>
          by_cases hc : s > last
          · simp only [Bool.false_or, hc, decide_true, if_true, least_snoc]
            cases hl : leastP l with
            | none => simp [encO, minStep]
            | some b =>
              simp only [encO, minStep]
              by_cases hs : s < b <;> simp [hs]
          · simp [hc]
      · rw [List.take_of_length_le (by omega)]
        refine loopO_end ?_
        simp (disch := omega) only [F_congressref19_Least_b1, decide_eq_true_eq, if_neg]
  unfold F_congressref19_Least
  have := key _ 0 (Nat.le_refl _) (by omega)
  have h0 : loopO (F_congressref19_Least_b1 x last any) (0, false, 0) = some (encO (leastP ((x.map ses).filter fun s => any || decide (s > last)))) := this
  rw [h0]
  rfl
theorem f_leastA (x : List EntS) (last : Int) (hn : x.length * 56 ≤ 140737488355328) : F_congressref19_Least x last true = some (encO (leastP (x.map ses))) := by
  rw [f_least x last true hn]
  congr 3
  rw [List.filter_eq_self]
  intro a _; rfl
theorem f_leastB (x : List EntS) (last : Int) (hn : x.length * 56 ≤ 140737488355328) : F_congressref19_Least x last false = some (encO (leastP ((x.map ses).filter fun s => decide (s > last)))) := by
  rw [f_least x last false hn]
  rfl
theorem f_refTurn (x : List EntS) (last : Int) (hn : x.length * 56 ≤ 140737488355328) : F_congressref19_Turn x last = some (turnP x last) := by
  have hr : ∃ r1, ((F_congressref19_Least x last false).bind fun t1 => (show Option (Int × Bool) from if (!t1.2) = true then (F_congressref19_Least x last true).bind fun t2 => (some (t2.1, t2.2)) else some (t1.1, t1.2))) = some r1 ∧ r1 = encO (nextP (x.map ses) last) := by
    rw [f_leastB x last hn]
    simp only [Option.bind_some]
    unfold nextP
    cases h : leastP ((x.map ses).filter fun s => decide (s > last)) with
    | none =>
      rw [f_leastA x last hn]
      exact ⟨_, rfl, rfl⟩
    | some b => exact ⟨_, rfl, rfl⟩
  obtain ⟨r1, hr1, hr2⟩ := hr
  have e : F_congressref19_Turn x last = ((F_congressref19_Least x last false).bind fun t1 => (show Option (Int × Bool) from if (!t1.2) = true then (F_congressref19_Least x last true).bind fun t2 => (some (t2.1, t2.2)) else some (t1.1, t1.2))).bind (fun r1 => (loopO (F_congressref19_Turn_b2 r1 x) 0).bind (Sum.elim some (fun j21 => some (0, false)))) := by
    unfold F_congressref19_Turn
    cases F_congressref19_Least x last false <;> rfl
  rw [e, hr1, hr2]
  simp only [Option.bind_some]
  unfold turnP
  cases hN : nextP (x.map ses) last with
  | none =>
    have hx : x = [] := by simpa using next_none hN
    subst hx
    rw [loopO_end (r := .inr ())]
    · rfl
    · rfl
  | some s =>
    obtain ⟨e0, he0, hs0⟩ := List.mem_map.1 (next_mem hN)
    have hlt : x.findIdx (fun e => ses e == s) < x.length := List.findIdx_lt_length_of_exists ⟨e0, he0, by simp [hs0]⟩
    have key : ∀ (m i : Nat), x.length - i ≤ m → i ≤ x.findIdx (fun e => ses e == s) → loopO (F_congressref19_Turn_b2 (s, true) x) (i : Int) = some (.inl (((x.findIdx fun e => ses e == s : Nat) : Int), true)) := by
      intro m
      induction m with
      | zero => intro i hm hi; omega
      | succ m ih =>
        intro i hm hi
        have h : i < x.length := by omega
        have es : (x[i].2.2.2.1 == s) = (ses x[i] == s) := rfl
        by_cases hp : (ses x[i] == s) = true
        · have hi2 : x.findIdx (fun e => ses e == s) = i := by
            refine Nat.le_antisymm ?_ hi
            exact Nat.not_lt.1 fun hc => by
              have := List.not_of_lt_findIdx hc
              rw [hp] at this; cases this
          rw [hi2]
          refine loopO_end ?_
          simp (disch := omega) only [F_congressref19_Turn_b2, decide_eq_true_eq, if_pos, Int.toNat_natCast, ge_eq x h, Option.bind_some, if_true, es, hp]
        · have hne : i ≠ x.findIdx (fun e => ses e == s) := fun hc => by
            have := List.findIdx_getElem (w := hlt)
            exact hp (by simpa [← hc] using this)
          rw [← ih (i + 1) (by omega) (by omega)]
          refine loopO_go ?_
          simp (disch := omega) only [F_congressref19_Turn_b2, decide_eq_true_eq, if_pos, Int.toNat_natCast, ge_eq x h, Option.bind_some, if_true, es, wr]
          rw [if_neg hp]
          rfl
    have := key _ 0 (Nat.le_refl _) (by omega)
    have h0 : loopO (F_congressref19_Turn_b2 (encO (some s)) x) 0 = some (.inl (((x.findIdx fun e => ses e == s : Nat) : Int), true)) := this
    rw [h0]
    rfl

theorem f_refSessions (x : List EntS) (hn : x.length * 56 ≤ 140737488355328) : ∃ S, F_congressref19_Sessions x = some S ∧ List.Pairwise (fun a b => a < b) S ∧ ∀ s, s ∈ S ↔ s ∈ x.map ses := by
  have key : ∀ (m : Nat) (o : Option Int) (out : List Int), x.length - out.length ≤ m → List.Pairwise (fun a b => a < b) out → (∀ s ∈ out, s ∈ x.map ses) →
      (∀ b, o = some b → b ∈ x.map ses ∧ (∀ s ∈ out, s < b) ∧ ∀ y ∈ x.map ses, y ∈ out ∨ b ≤ y) → (o = none → ∀ y ∈ x.map ses, y ∈ out) →
      ∃ S, loopO (F_congressref19_Sessions_b1 x) ((encO o).1, (encO o).2, out) = some S ∧ List.Pairwise (fun a b => a < b) S ∧ ∀ s, s ∈ S ↔ s ∈ x.map ses := by
    intro m
    induction m with
    | zero =>
      intro o out hm hp hin hs hno
      cases o with
      | none =>
        exact ⟨out, loopO_end (by simp [F_congressref19_Sessions_b1, encO]), hp, fun s => ⟨hin s, hno rfl s⟩⟩
      | some b =>
        obtain ⟨h1, h2, h3⟩ := hs b rfl
        have hnd : (out ++ [b]).Nodup := by
          rw [List.nodup_append]
          refine ⟨hp.imp fun h => by omega, by simp, fun a ha c hc => ?_⟩
          have := h2 a ha
          simp only [List.mem_singleton] at hc
          omega
        have := List.Nodup.length_le_of_subset hnd (l₂ := x.map ses) fun s hs => by
          rcases List.mem_append.1 hs with h | h
          · exact hin s h
          · simp only [List.mem_singleton] at h; rw [h]; exact h1
        simp at this
        omega
    | succ m ih =>
      intro o out hm hp hin hs hno
      cases o with
      | none =>
        exact ⟨out, loopO_end (by simp [F_congressref19_Sessions_b1, encO]), hp, fun s => ⟨hin s, hno rfl s⟩⟩
      | some b =>
        obtain ⟨h1, h2, h3⟩ := hs b rfl
        have hp2 : List.Pairwise (fun a b => a < b) (out ++ [b]) := by
          rw [List.pairwise_append]
          exact ⟨hp, by simp, fun a ha c hc => by simp only [List.mem_singleton] at hc; rw [hc]; exact h2 a ha⟩
        have hin2 : ∀ s ∈ out ++ [b], s ∈ x.map ses := fun s hs => by
          rcases List.mem_append.1 hs with h | h
          · exact hin s h
          · simp only [List.mem_singleton] at h; rw [h]; exact h1
        have hlen := List.Nodup.length_le_of_subset (hp2.imp fun h => by omega : (out ++ [b]).Nodup) hin2
        simp at hlen
        obtain ⟨S, i1, i2⟩ := ih (leastP ((x.map ses).filter fun s => decide (s > b))) (out ++ [b]) (by simp; omega) hp2 hin2 (fun c hc => by
            obtain ⟨k1, k2⟩ := least_some hc
            obtain ⟨k3, k4⟩ := List.mem_filter.1 k1
            simp only [decide_eq_true_eq] at k4
            refine ⟨k3, fun s hs => ?_, fun y hy => ?_⟩
            · rcases List.mem_append.1 hs with h | h
              · have := h2 s h; omega
              · simp only [List.mem_singleton] at h; omega
            · rcases h3 y hy with h | h
              · exact .inl (List.mem_append_left _ h)
              · by_cases e : y = b
                · subst e; exact .inl (by simp)
                · exact .inr (k2 y (List.mem_filter.2 ⟨hy, by simp; omega⟩))) (fun hc y hy => by
            rcases h3 y hy with h | h
            · exact List.mem_append_left _ h
            · by_cases e : y = b
              · subst e; simp
              · have hf := least_none hc
                rw [List.filter_eq_nil_iff] at hf
                exact absurd (show decide (y > b) = true by simp; omega) (hf y hy))
        refine ⟨S, ?_, i2⟩
        rw [← i1]
        refine loopO_go ?_
        have hap : apOk (List.length out + 1) 8 := apOk_of (by omega) (by decide)
        simp only [F_congressref19_Sessions_b1, encO, if_true]
        rw [if_pos hap, f_leastB x b hn]
        rfl
  unfold F_congressref19_Sessions
  rw [f_leastA x 0 hn]
  simp only [Option.bind_some]
  obtain ⟨S, h1, h2⟩ := key _ (leastP (x.map ses)) [] (Nat.le_refl _) (by simp) (by simp) (fun b hb => ⟨(least_some hb).1, by simp, fun y hy => .inr ((least_some hb).2 y hy)⟩) (fun hc y hy => by rw [least_none hc] at hy; cases hy)
  rw [h1]
  exact ⟨S, rfl, h2⟩

/-! ### Comparing, choosing, taking away -/
theorem f_same (l : List Int) (hn : l.length ≤ 1152921504606846976) : F_congressref19_Same l l = some true := by
  have key : ∀ (m i : Nat), l.length - i ≤ m → loopO (F_congressref19_Same_b1 l l) (i : Int) = some (.inr ()) := by
    intro m
    induction m with
    | zero =>
      intro i hm
      refine loopO_end ?_
      simp (disch := omega) only [F_congressref19_Same_b1, decide_eq_true_eq, if_neg]
    | succ m ih =>
      intro i hm
      by_cases h : i < l.length
      · rw [← ih (i + 1) (by omega)]
        refine loopO_go ?_
        simp (disch := omega) only [F_congressref19_Same_b1, decide_eq_true_eq, if_pos, wr]
        rw [if_neg (by simp)]
        rfl
      · refine loopO_end ?_
        simp (disch := omega) only [F_congressref19_Same_b1, decide_eq_true_eq, if_neg]
  unfold F_congressref19_Same
  have h0 : loopO (F_congressref19_Same_b1 l l) 0 = some (.inr ()) := key _ 0 (Nat.le_refl _)
  rw [if_neg (by simp), h0]
  rfl
theorem f_entries (l : List EntS) (hn : l.length ≤ 1152921504606846976) : F_congressref04_Entries l l = some true := by
  have key : ∀ (m i : Nat), l.length - i ≤ m → loopO (F_congressref04_Entries_b1 l l) (i : Int) = some (.inr ()) := by
    intro m
    induction m with
    | zero =>
      intro i hm
      refine loopO_end ?_
      simp (disch := omega) only [F_congressref04_Entries_b1, decide_eq_true_eq, if_neg]
    | succ m ih =>
      intro i hm
      by_cases h : i < l.length
      · rw [← ih (i + 1) (by omega)]
        refine loopO_go ?_
        have he : ∀ e : EntS, Sh.eqb S36 e e = true := fun e => (eqb_iff (s := S36) rfl e e).2 rfl
        simp (disch := omega) only [F_congressref04_Entries_b1, decide_eq_true_eq, if_pos, wr, he]
        rfl
      · refine loopO_end ?_
        simp (disch := omega) only [F_congressref04_Entries_b1, decide_eq_true_eq, if_neg]
  unfold F_congressref04_Entries
  have h0 : loopO (F_congressref04_Entries_b1 l l) 0 = some (.inr ()) := key _ 0 (Nat.le_refl _)
  rw [if_neg (by simp), h0]
  rfl
theorem f_of (l : List EntS) (s : Int) (hn : l.length * 56 ≤ 140737488355328) : F_congressref19_Of l s = some (l.filter fun e => ses e == s) := by
  have key : ∀ (m i : Nat), l.length - i ≤ m → i ≤ l.length → loopO (F_congressref19_Of_b1 l s) ((i : Int), (l.take i).filter fun e => ses e == s) = some (l.filter fun e => ses e == s) := by
    intro m
    induction m with
    | zero =>
      intro i hm hi
      rw [List.take_of_length_le (by omega)]
      refine loopO_end ?_
      simp (disch := omega) only [F_congressref19_Of_b1, decide_eq_true_eq, if_neg]
    | succ m ih =>
      intro i hm hi
      by_cases h : i < l.length
      · rw [← ih (i + 1) (by omega) (by omega), List.take_succ_eq_append_getElem h, List.filter_append]
        refine loopO_go ?_
        have hle := List.length_filter_le (fun e => ses e == s) (l.take i)
        rw [List.length_take, Nat.min_eq_left hi] at hle
        have hap : apOk (List.length ((l.take i).filter fun e => ses e == s) + 1) 56 := apOk_of (by omega) (by decide)
        have es : (l[i].2.2.2.1 == s) = (ses l[i] == s) := rfl
        simp (disch := omega) only [F_congressref19_Of_b1, decide_eq_true_eq, if_pos, wr, Int.toNat_natCast, ge_eq l h, es]
        cases hp : (ses l[i] == s) with
        | true =>
          rw [if_pos rfl]
          first
            | (rw [if_pos hap]; simp [hp])
            | simp [hp]
        | false => simp [hp]
      · rw [List.take_of_length_le (by omega)]
        refine loopO_end ?_
        simp (disch := omega) only [F_congressref19_Of_b1, decide_eq_true_eq, if_neg]
  unfold F_congressref19_Of
  have h0 : loopO (F_congressref19_Of_b1 l s) (0, []) = some (l.filter fun e => ses e == s) := key _ 0 (Nat.le_refl _) (by omega)
  rw [h0]
  rfl
theorem f_clone (l : List EntS) (hn : l.length * 56 ≤ 140737488355328) : F_slices_Clone_api_Entry_api_Entry l = some l := by
  unfold F_slices_Clone_api_Entry_api_Entry
  rw [if_pos (apOk_of (by omega) (by decide))]
  rfl
theorem f_delete (l : List EntS) (i : Nat) (hi : i < l.length) : F_slices_Delete_api_Entry_api_Entry l (i : Int) ((i : Int) + 1) = some (l.take i ++ l.drop (i + 1)) := by
  have t1 : Int.toNat ((i : Int) + 1) = i + 1 := by omega
  have eB : List.take (l.length - (i + 1)) (List.drop (i + 1) l) = List.drop (i + 1) l := List.take_of_length_le (by simp)
  have lB : (List.drop (i + 1) l).length = l.length - (i + 1) := List.length_drop
  unfold F_slices_Delete_api_Entry_api_Entry
  simp only [t1, Int.toNat_natCast, eB, lB, Nat.sub_zero, Nat.zero_add]
  generalize hC : List.drop (i + (l.length - (i + 1))) l = C
  have lC : C.length = 1 := by rw [← hC, List.length_drop]; omega
  have lA : (List.take i l).length = i := by rw [List.length_take]; omega
  have lAB : (List.take i l ++ (List.drop (i + 1) l ++ C)).length = l.length := by
    rw [List.length_append, List.length_append, lA, lB, lC]; omega
  rw [if_pos (by omega), if_neg (by simp; omega), if_pos (by omega), if_pos (by omega), if_pos (by omega), lAB, if_pos (by omega), if_pos (by omega)]
  have eT : List.take (i + (l.length - (i + 1))) (List.take i l ++ (List.drop (i + 1) l ++ C)) = List.take i l ++ List.drop (i + 1) l := by
    rw [← List.append_assoc]
    exact List.take_left' (by rw [List.length_append, lA, lB])
  rw [eT, if_pos (by simp; omega)]
  congr 1
  exact List.take_left' (by rw [List.length_append, lA, lB])
end Go.Proofs.Ytjnaphniplfpkaa
