/- sched.Fill and its reference as plain functions; the fixed calls. -/
import Derived.Test.YtjnaphniplfpkaaS8
set_option linter.unusedVariables false
set_option linter.unusedSimpArgs false
namespace Go.Proofs.Ytjnaphniplfpkaa
open Go.RowKit Go.Sort Go.IntWalk

abbrev ixS (x : List EntS) (s : Int) : Nat := x.findIdx fun e => ses e == s
def wo (x : List EntS) (s : Int) : List EntS := x.take (ixS x s) ++ x.drop (ixS x s + 1)
def fillP : Nat → List EntS → Int → List EntS × List EntS × Int
  | 0, x, last => ([], x, last)
  | n + 1, x, last => match nextP (x.map ses) last with
    | none => ([], x, last)
    | some s => (List.getD x (ixS x s) S36.dflt :: (fillP n (wo x s) s).1, (fillP n (wo x s) s).2.1, (fillP n (wo x s) s).2.2)
theorem fill_none {n : Nat} {x : List EntS} {last : Int} (h : nextP (x.map ses) last = none) : fillP n x last = ([], x, last) := by
  cases n with
  | zero => rfl
  | succ n => simp only [fillP]; rw [h]
theorem fill_some {n : Nat} {x : List EntS} {last s : Int} (h : nextP (x.map ses) last = some s) : fillP (n + 1) x last = (List.getD x (ixS x s) S36.dflt :: (fillP n (wo x s) s).1, (fillP n (wo x s) s).2.1, (fillP n (wo x s) s).2.2) := by
  simp only [fillP]; rw [h]
theorem ix_lt {x : List EntS} {s : Int} (h : s ∈ x.map ses) : ixS x s < x.length := by
  obtain ⟨e, he, hs⟩ := List.mem_map.1 h
  exact List.findIdx_lt_length_of_exists ⟨e, he, by simp [hs]⟩
theorem ix_ses {x : List EntS} {s : Int} (h : s ∈ x.map ses) : ses (List.getD x (ixS x s) S36.dflt) = s := by
  have hl := ix_lt h
  rw [ge_eq x hl]
  simpa using List.findIdx_getElem (w := hl)
theorem wo_len {x : List EntS} {s : Int} (h : s ∈ x.map ses) : (wo x s).length + 1 = x.length := by
  have hl := ix_lt h
  unfold wo
  rw [List.length_append, List.length_take, List.length_drop]
  omega
theorem turn_some {x : List EntS} {last s : Int} (h : nextP (x.map ses) last = some s) : turnP x last = ((ixS x s : Int), true) := by unfold turnP; rw [h]
theorem turn_none {x : List EntS} {last : Int} (h : nextP (x.map ses) last = none) : turnP x last = (0, false) := by unfold turnP; rw [h]

theorem f_refFillL (slots : Int) : ∀ (n k : Nat) (x T : List EntS) (last : Int), (k : Int) + n = mx 0 (mn slots 16) → T.length ≤ k → x.length * 56 ≤ 140737488355328 →
    loopO (F_congressref19_Fill_b1 slots) (x, last, (k : Int), T) = some ((fillP n x last).2.1, (fillP n x last).2.2, T ++ (fillP n x last).1) := by
  have hN : ∀ k : Nat, ((k : Int) < slots ∧ (k : Int) < 16) ↔ (k : Int) < mx 0 (mn slots 16) := by intro k; unfold mx mn; split <;> split <;> omega
  have hN2 : mx 0 (mn slots 16) ≤ 16 := by unfold mx mn; split <;> split <;> omega
  have cond : ∀ k : Nat, (show Option Bool from if (decide ((k : Int) < slots)) = true then some (decide ((k : Int) < 16)) else some false) = some (decide ((k : Int) < mx 0 (mn slots 16))) := by
    intro k
    show (if (decide ((k : Int) < slots)) = true then some (decide ((k : Int) < 16)) else some false) = _
    have := hN k
    by_cases h1 : (k : Int) < slots <;> by_cases h2 : (k : Int) < 16 <;> simp [h1, h2] at this ⊢ <;> omega
  intro n
  induction n with
  | zero =>
    intro k x T last hk hT hx
    refine loopO_end ?_
    have c := cond k
    unfold F_congressref19_Fill_b1
    rw [c]
    simp only [Option.bind_some]
    rw [if_neg (by simp; omega)]
    simp [fillP]
  | succ n ih =>
    intro k x T last hk hT hx
    have c := cond k
    cases hN3 : nextP (x.map ses) last with
    | none =>
      rw [fill_none hN3]
      refine loopO_end ?_
      unfold F_congressref19_Fill_b1
      rw [c]
      simp only [Option.bind_some]
      rw [if_pos (by simp; omega), f_refTurn x last hx, turn_none hN3]
      simp
    | some s =>
      have hm := next_mem hN3
      have hl := ix_lt hm
      have hw := wo_len hm
      rw [fill_some hN3]
      have := ih (k + 1) (wo x s) (T ++ [List.getD x (ixS x s) S36.dflt]) s (by omega) (by simp; omega) (by omega)
      rw [show T ++ List.getD x (ixS x s) S36.dflt :: (fillP n (wo x s) s).1 = T ++ [List.getD x (ixS x s) S36.dflt] ++ (fillP n (wo x s) s).1 by simp, ← this]
      refine loopO_go ?_
      unfold F_congressref19_Fill_b1
      rw [c]
      simp only [Option.bind_some]
      rw [if_pos (by simp; omega), f_refTurn x last hx, turn_some hN3]
      simp only [Option.bind_some]
      have t1 : Int.toNat ((ixS x s : Int) + 1) = ixS x s + 1 := by omega
      rw [if_neg (by simp), if_pos (by omega), if_pos (apOk_of (by omega) (by decide))]
      simp (disch := omega) only [wr, Int.toNat_natCast, t1, List.drop_zero, List.nil_append]
      have el : List.take (List.length x) x = x := List.take_length
      rw [el, if_pos (by omega), if_pos (apOk_of (by rw [List.length_take]; omega) (by decide)), if_pos (by omega), if_pos (apOk_of (by rw [List.length_take, List.length_drop]; omega) (by decide))]
      have es : (List.getD x (ixS x s) S36.dflt).2.2.2.1 = s := ix_ses hm
      rw [es]
      rfl
theorem f_schedFillL (slots : Int) : ∀ (n k : Nat) (x T : List EntS) (last : Int), (k : Int) + n = mx 0 (mn slots 16) → T.length ≤ k → x.length * 56 ≤ 140737488355328 →
    loopO (F_sched_Fill_b1 slots) (last, (k : Int), x, T) = some ((fillP n x last).2.2, (fillP n x last).2.1, T ++ (fillP n x last).1) := by
  have hN2 : mx 0 (mn slots 16) ≤ 16 := by unfold mx mn; split <;> split <;> omega
  intro n
  induction n with
  | zero =>
    intro k x T last hk hT hx
    refine loopO_end ?_
    unfold F_sched_Fill_b1
    rw [if_neg (by simp; omega)]
    simp [fillP]
  | succ n ih =>
    intro k x T last hk hT hx
    cases hN3 : nextP (x.map ses) last with
    | none =>
      rw [fill_none hN3]
      refine loopO_end ?_
      unfold F_sched_Fill_b1
      rw [if_pos (by simp; omega), f_schedTurn x last hx, turn_none hN3]
      simp
    | some s =>
      have hm := next_mem hN3
      have hl := ix_lt hm
      have hw := wo_len hm
      rw [fill_some hN3]
      have := ih (k + 1) (wo x s) (T ++ [List.getD x (ixS x s) S36.dflt]) s (by omega) (by simp; omega) (by omega)
      rw [show T ++ List.getD x (ixS x s) S36.dflt :: (fillP n (wo x s) s).1 = T ++ [List.getD x (ixS x s) S36.dflt] ++ (fillP n (wo x s) s).1 by simp, ← this]
      refine loopO_go ?_
      unfold F_sched_Fill_b1
      rw [if_pos (by simp; omega), f_schedTurn x last hx, turn_some hN3]
      simp only [Option.bind_some]
      rw [if_neg (by simp), if_pos (by omega), if_pos (apOk_of (by omega) (by decide))]
      simp (disch := omega) only [wr, Int.toNat_natCast]
      rw [if_pos (by omega), f_delete x (ixS x s) hl]
      have es : (List.getD x (ixS x s) S36.dflt).2.2.2.1 = s := ix_ses hm
      rw [es]
      rfl
def slotsN (slots : Int) : Nat := (mx 0 (mn slots 16)).toNat
theorem slotsN_eq (slots : Int) : ((0 : Nat) : Int) + slotsN slots = mx 0 (mn slots 16) := by unfold slotsN mx mn; split <;> split <;> omega
theorem f_refFill (x : List EntS) (last slots : Int) (hx : x.length * 56 ≤ 140737488355328) : F_congressref19_Fill x last slots = some (fillP (slotsN slots) x last) := by
  have := f_refFillL slots (slotsN slots) 0 x [] last (slotsN_eq slots) (Nat.le_refl _) hx
  unfold F_congressref19_Fill
  have h0 : loopO (F_congressref19_Fill_b1 slots) (x, last, 0, []) = _ := this
  rw [h0]
  rfl
theorem f_schedFill (x : List EntS) (last slots : Int) (hx : x.length * 56 ≤ 140737488355328) : F_sched_Fill x last slots = some (fillP (slotsN slots) x last) := by
  have := f_schedFillL slots (slotsN slots) 0 x [] last (slotsN_eq slots) (Nat.le_refl _) hx
  unfold F_sched_Fill
  rw [f_clone x hx]
  simp only [Option.bind_some]
  have h0 : loopO (F_sched_Fill_b1 slots) (last, 0, x, []) = _ := this
  rw [h0]
  rfl

/-! ### What the document fixes -/
def W4 : List EntS := [(1, 0, 0, 1, 0, []), (1, 0, 0, 1, 1, []), (1, 0, 0, 1, 2, []), (1, 0, 0, 2, 3, [])]
theorem f_some4 : F_congresslaw19_some [1, 1, 1, 2] = some W4 := by
  have st : ∀ (i : Nat) (a : List EntS) (v : Int) (w : Int), i < 4 → a.length ≤ 4 → List.getD [(1 : Int), 1, 1, 2] i 0 = v → IntKind.wrap .u64 (i : Int) = w → F_congresslaw19_some_b1 [1, 1, 1, 2] ((i : Int), a) = some (.inl (((i + 1 : Nat) : Int), a ++ [(1, 0, 0, v, w, [])])) := by
    intro i a v w hi ha hv hw
    have hap : apOk (List.length a + 1) 56 := apOk_of (by omega) (by decide)
    unfold F_congresslaw19_some_b1
    simp only [Int.toNat_natCast, hv, hw]
    rw [if_pos (by simp; omega), if_pos (by simp; omega), if_pos hap, wr (by omega)]
    rfl
  unfold F_congresslaw19_some
  have e0 : ((0 : Int), ([] : List EntS)) = (((0 : Nat) : Int), []) := rfl
  rw [e0, loopO_go (st 0 [] 1 0 (by decide) (by decide) rfl (by decide)), loopO_go (st 1 _ 1 1 (by decide) (by decide) rfl (by decide)), loopO_go (st 2 _ 1 2 (by decide) (by decide) rfl (by decide)), loopO_go (st 3 _ 2 3 (by decide) (by decide) rfl (by decide)), loopO_end (r := W4)]
  · rfl
  · rfl
theorem f_sess4 : F_sched_Sessions W4 = some [1, 2] := by
  obtain ⟨S, h1, h2, h3⟩ := f_Sessions W4 (by decide)
  rw [h1]
  congr 1
  refine strict_unique h2 (by decide) fun s => ?_
  rw [h3 s]
  simp [W4, ses]
theorem f_fixed : F_congresslaw19_fixed = some true := by
  unfold F_congresslaw19_fixed
  rw [f_some4]
  simp only [Option.bind_some]
  have h2 : fillP (slotsN 2) W4 0 = ([(1, 0, 0, 1, 0, []), (1, 0, 0, 2, 3, [])], [(1, 0, 0, 1, 1, []), (1, 0, 0, 1, 2, [])], 2) := by kernel_rfl
  rw [f_schedFill W4 0 2 (by decide), h2]
  simp only [Option.bind_some]
  rw [f_schedTurn _ _ (by decide)]
  simp only [Option.bind_some]
  rw [f_schedTurn [] _ (by decide)]
  simp only [Option.bind_some]
  rw [f_sess4]
  simp only [Option.bind_some]
  rw [f_same _ (by decide)]
  have t1 : turnP [(1, 0, 0, 1, 1, []), (1, 0, 0, 1, 2, [])] 2 = (0, true) := by kernel_rfl
  have t2 : turnP [] 0 = (0, false) := rfl
  rw [t1, t2]
  rfl
end Go.Proofs.Ytjnaphniplfpkaa
