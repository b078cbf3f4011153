/- The four statements of a trace, as plain laws. -/
import Derived.Test.YtlhbekiplnmolaaDoorT5
set_option linter.unusedVariables false
set_option linter.unusedSimpArgs false
set_option linter.unusedVariables false
set_option linter.unusedSimpArgs false
namespace Go.Proofs.YtlhbekiplnmolaaDoor
open Go.RowKit Go.IntWalk

def ruleAt (l : List S35.ty) (i : Nat) : Int := if 0 < i ∧ (show Int from (l.getD i S35.dflt).1) < (show Int from (l.getD (i - 1) S35.dflt).1) then 1 else ruleS (ofL (l.take i) (l.getD i S35.dflt)) (l.getD i S35.dflt)
def resC (l : List S35.ty) : Int × Int := match (List.range l.length).find? (fun i => ruleAt l i != 0) with
  | some i => ((i : Int), ruleAt l i)
  | none => (-1, 0)
structure LOk (l : List S35.ty) : Prop where
  n : l.length ≤ 1000
  o : ∀ s ∈ l, SgSm s
theorem LOk.sub {l m : List S35.ty} (h : LOk l) (hs : m.Sublist l) : LOk m := ⟨Nat.le_trans hs.length_le h.n, fun s hm => h.o s (hs.subset hm)⟩
theorem step_eq {l : List S35.ty} {i : Nat} (hi : i < l.length) (hn : l.length ≤ 1000) : (if (decide ((i : Int) > 0)) = true then (if 0 ≤ (IntKind.wrap .i64 ((i : Int) - 1)) ∧ (IntKind.wrap .i64 ((i : Int) - 1)) < ((List.length l : Nat) : Int) then (some (decide (((List.getD l (Int.toNat (i : Int)) S35.dflt).1) < ((List.getD l (Int.toNat (IntKind.wrap .i64 ((i : Int) - 1))) S35.dflt).1)))) else none) else some false : Option Bool) = some (decide (0 < i ∧ (show Int from (l.getD i S35.dflt).1) < (show Int from (l.getD (i - 1) S35.dflt).1))) := by
  by_cases h : 0 < i
  · have hw : IntKind.wrap .i64 ((i : Int) - 1) = ((i - 1 : Nat) : Int) := by rw [wr (by omega)]; omega
    rw [if_pos (by simpa using h), hw, if_pos ⟨by omega, by omega⟩]
    simp only [Int.toNat_natCast, h, true_and]
  · obtain rfl : i = 0 := by omega
    rw [if_neg (by decide)]
    simp
theorem f_checkR {l : List S35.ty} (h : LOk l) : F_congressref26_Check l = some (resC l) := by
  unfold F_congressref26_Check
  refine (congrArg (fun o => Option.bind o _) (loop_find (n := l.length) (fun i => ruleAt l i != 0) (fun i => ((i : Int), ruleAt l i)) (fun i hi => ?_) ?_)).trans (by
    unfold resC
    cases (List.range l.length).find? (fun i => ruleAt l i != 0) <;> rfl)
  · show _ = some (if (ruleAt l i != 0) = true then _ else _)
    unfold F_congressref26_Check_b1
    have hn := h.n
    have g : 0 ≤ (i : Int) ∧ (i : Int) < ((l.length : Nat) : Int) := ⟨by omega, by omega⟩
    have hm := getD_mem (d := S35.dflt) hi
    have e := step_eq hi hn
    have e' : (show Option Bool from if (decide ((i : Int) > 0)) = true then if 0 ≤ (i : Int) ∧ (i : Int) < ((List.length l : Nat) : Int) then (if 0 ≤ (IntKind.wrap .i64 ((i : Int) - 1)) ∧ (IntKind.wrap .i64 ((i : Int) - 1)) < ((List.length l : Nat) : Int) then (some (decide (((List.getD l (Int.toNat (i : Int)) S35.dflt).1) < ((List.getD l (Int.toNat (IntKind.wrap .i64 ((i : Int) - 1))) S35.dflt).1)))) else none) else none else some false) = some (decide (0 < i ∧ (show Int from (l.getD i S35.dflt).1) < (show Int from (l.getD (i - 1) S35.dflt).1))) := by
      rw [← e]
      by_cases q : decide ((i : Int) > 0) = true
      · rw [if_pos q, if_pos q, if_pos g]
      · rw [if_neg q, if_neg q]
    rw [if_pos (by simpa using hi), e', Option.bind_some, wr (by omega)]
    unfold ruleAt
    by_cases q : 0 < i ∧ (show Int from (l.getD i S35.dflt).1) < (show Int from (l.getD (i - 1) S35.dflt).1)
    · rw [if_pos (decide_eq_true q), if_pos q]; rfl
    · rw [if_neg (by rw [decide_eq_false q]; decide), if_neg q, if_pos ⟨by omega, Nat.zero_le _, by simp; omega⟩, if_pos g]
      have ed : List.drop 0 (List.take (Int.toNat (i : Int)) l) = l.take i := by simp
      rw [ed]
      simp only [Int.toNat_natCast]
      rw [f_ofR (by simp; omega), Option.bind_some, if_pos g, r_rule (Nat.le_trans (ofL_len _ _) (by simp; omega)) (h.o _ hm), Option.bind_some]
      by_cases z : ruleS (ofL (l.take i) (l.getD i S35.dflt)) (l.getD i S35.dflt) = 0
      · have z' : ¬ (ruleS (ofL (l.take i) (l.getD i S35.dflt)) (l.getD i S35.dflt) != 0) = true := by rw [bne_iff_ne]; exact fun h => h z
        rw [if_neg z', if_neg z']
      · have z' : (ruleS (ofL (l.take i) (l.getD i S35.dflt)) (l.getD i S35.dflt) != 0) = true := bne_iff_ne.2 z
        rw [if_pos z', if_pos z']
  · unfold F_congressref26_Check_b1
    rw [if_neg (by simp)]
def InvC (ks : KS) (a : List S35.ty) : Prop := ∀ w, RC ((lookM S63 w ks).getD cz) (a.filter fun s => Sh.eqb S63 (whoS s) w)
theorem body_check {l : List S35.ty} (h : LOk l) {i : Nat} (hi : i < l.length) {ks : KS} (hk : InvC ks (l.take i)) :
    ∃ ks', F_trace_Check_b1 l ((i : Int), ks) = some (if (ruleAt l i != 0) = true then .inr (.inl ((i : Int), ruleAt l i)) else .inl (((i + 1 : Nat) : Int), ks')) ∧ (ruleAt l i = 0 → InvC ks' (l.take (i + 1))) := by
  have hn := h.n
  have g : 0 ≤ (i : Int) ∧ (i : Int) < ((l.length : Nat) : Int) := ⟨by omega, by omega⟩
  have hm := getD_mem (d := S35.dflt) hi
  unfold F_trace_Check_b1
  have e := step_eq hi hn
  have hw : IntKind.wrap .i64 ((i : Int) + 1) = ((i + 1 : Nat) : Int) := by rw [wr (by omega)]; omega
  have e' : (show Option Bool from if (decide ((i : Int) > 0)) = true then (if 0 ≤ (IntKind.wrap .i64 ((i : Int) - 1)) ∧ (IntKind.wrap .i64 ((i : Int) - 1)) < ((List.length l : Nat) : Int) then (some (decide (((List.getD l (Int.toNat (i : Int)) S35.dflt).1) < ((List.getD l (Int.toNat (IntKind.wrap .i64 ((i : Int) - 1))) S35.dflt).1)))) else none) else some false) = some (decide (0 < i ∧ (show Int from (l.getD i S35.dflt).1) < (show Int from (l.getD (i - 1) S35.dflt).1))) := e
  rw [if_pos (by simpa using hi), if_pos g, e', Option.bind_some, hw]
  by_cases q : 0 < i ∧ (show Int from (l.getD i S35.dflt).1) < (show Int from (l.getD (i - 1) S35.dflt).1)
  · have er : ruleAt l i = 1 := if_pos q
    rw [if_pos (decide_eq_true q), er]
    exact ⟨ks, rfl, fun h => absurd h (by decide)⟩
  · have er : ruleAt l i = ruleS (ofL (l.take i) (l.getD i S35.dflt)) (l.getD i S35.dflt) := if_neg q
    rw [if_neg (by rw [decide_eq_false q]; decide), f_of, Option.bind_some]
    simp only [Int.toNat_natCast]
    have r := hk (whoS (l.getD i S35.dflt))
    rw [← ent_val] at r
    obtain ⟨c', h1, h2⟩ := f_check r (h.o _ hm) (Nat.le_trans (ofL_len _ _) (by simp; omega))
    rw [h1, Option.bind_some, er]
    have ea : ofL (l.take i) (l.getD i S35.dflt) = (l.take i).filter (fun s => Sh.eqb S63 (whoS s) (whoS (l.getD i S35.dflt))) := rfl
    rw [ea]
    refine ⟨estM (entV S63 (whoS (l.getD i S35.dflt)) cz ks).2 c' (entM S63 (whoS (l.getD i S35.dflt)) cz ks), ?_, fun hz w => ?_⟩
    · exact (apply_ite some _ _ _).symm
    · rw [look_est rfl, take_succ' (d := S35.dflt) hi, List.filter_append]
      by_cases he : Sh.eqb S63 w (whoS (l.getD i S35.dflt)) = true
      · have ew : w = whoS (l.getD i S35.dflt) := (eqb_iff (s := S63) rfl _ _).1 he
        subst ew
        rw [if_pos he]
        have ef : [l.getD i S35.dflt].filter (fun s => Sh.eqb S63 (whoS s) (whoS (l.getD i S35.dflt))) = [l.getD i S35.dflt] := by
          rw [List.filter_cons, if_pos he]; rfl
        rw [ef]
        exact h2 hz
      · rw [if_neg he]
        have ef : [l.getD i S35.dflt].filter (fun s => Sh.eqb S63 (whoS s) w) = [] := by
          rw [List.filter_cons, if_neg (fun q => he ((eqb_iff (s := S63) rfl _ _).2 ((eqb_iff (s := S63) rfl _ _).1 q).symm))]; rfl
        rw [ef, List.append_nil]
        exact hk w
theorem f_checkT {l : List S35.ty} (h : LOk l) : F_trace_Check l = some (resC l) := by
  have key : ∀ m i, l.length - i ≤ m → i ≤ l.length → ∀ ks, InvC ks (l.take i) → loopO (F_trace_Check_b1 l) ((i : Int), ks) = some (match (List.range' i (l.length - i)).find? (fun i => ruleAt l i != 0) with | some i => .inl ((i : Int), ruleAt l i) | none => .inr ()) := by
    intro m
    induction m with
    | zero =>
      intro i a b ks hk
      obtain rfl : i = l.length := by omega
      rw [loopO_end (r := .inr ()) (by unfold F_trace_Check_b1; rw [if_neg (by simp)])]
      simp
    | succ m ih =>
      intro i a b ks hk
      by_cases hi : i = l.length
      · subst hi
        rw [loopO_end (r := .inr ()) (by unfold F_trace_Check_b1; rw [if_neg (by simp)])]
        simp
      · have e : l.length - i = (l.length - (i + 1)) + 1 := by omega
        obtain ⟨ks', hb, hk'⟩ := body_check h (i := i) (by omega) hk
        rw [e, List.range'_succ, List.find?_cons]
        cases hp : (ruleAt l i != 0) with
        | true =>
          rw [hp, if_pos rfl] at hb
          rw [loopO_end hb]
        | false =>
          rw [hp, if_neg Bool.false_ne_true] at hb
          rw [loopO_go hb]
          exact ih (i + 1) (by omega) (by omega) ks' (hk' (by simpa using hp))
  unfold F_trace_Check
  have := key l.length 0 (by omega) (Nat.zero_le _) [] (fun w => rc_nil)
  rw [Nat.sub_zero, ← List.range_eq_range'] at this
  have e0 : (((0 : Nat) : Int), ([] : KS)) = (0, []) := rfl
  rw [e0] at this
  rw [this]
  unfold resC
  cases (List.range l.length).find? (fun i => ruleAt l i != 0) <;> rfl

/-! ### The fixed calls -/
def mN : S35.ty := (0, (0, (1, (0, (1, (3, (0, (0, (3, (0, ((0, (0, 0)), ((0, (0, 0)), ((0, (0, 0)), (([104, 105] : Str), []))))))))))))))
def wN : S35.ty := (0, (0, (1, (0, (1, (2, (0, (0, (1, (0, ((0, (0, 0)), ((0, (0, 0)), ((0, (0, 0)), ([], ([49, 46, 49, 32] : Str)))))))))))))))
theorem mN_ok : SgSm mN := ⟨by constructor <;> exact inB_ok (by decide), by decide⟩
theorem wN_ok : SgSm wN := ⟨by constructor <;> exact inB_ok (by decide), by decide⟩
theorem l_fixed : F_congresslaw26_fixed = some true := by
  unfold F_congresslaw26_fixed F_congresslaw26_note
  simp only [Option.bind_some]
  have e1 : F_trace_Check [mN, mN] = some (1, 6) := by
    rw [f_checkT ⟨by decide, fun s hs => by simp at hs; subst hs; exact mN_ok⟩]
    have : resC [mN, mN] = (1, 6) := by decide +kernel
    rw [this]
  have e2 : F_trace_Check [wN] = some (0, 5) := by
    rw [f_checkT ⟨by decide, fun s hs => by simp at hs; subst hs; exact wN_ok⟩]
    have : resC [wN] = (0, 5) := by decide +kernel
    rw [this]
  have e3 : F_trace_Check [mN] = some (-1, 0) := by
    rw [f_checkT ⟨by decide, fun s hs => by simp at hs; subst hs; exact mN_ok⟩]
    have : resC [mN] = (-1, 0) := by decide +kernel
    rw [this]
  have e4 : F_trace_Line mN = some KS0 := by
    rw [f_lineT mN_ok.ok (by decide)]
    have : lineS mN = KS0 := by decide +kernel
    rw [this]
  have e5 : F_trace_Agree [mN, mN] = some true := by
    rw [f_agreeT (by decide)]
    have : agreeS [mN, mN] = true := by decide +kernel
    rw [this]
  show (F_trace_Check [mN, mN]).bind _ = _
  rw [e1, Option.bind_some]
  show (F_trace_Check [wN]).bind _ = _
  rw [e2, Option.bind_some]
  show (F_trace_Check [mN]).bind _ = _
  rw [e3, Option.bind_some]
  show Option.bind (Option.bind (F_trace_Line mN) _) _ = _
  rw [e4, Option.bind_some]
  rw [if_pos (by decide)]
  show Option.bind (Option.bind (F_trace_Agree [mN, mN]) _) _ = _
  rw [e5]
  rfl

/-! ### The laws -/
structure LSm (l : List S35.ty) : Prop where
  o : ∀ s ∈ l, SgOk s
  b : lensum l ≤ 1048576
theorem LSm.lok {l : List S35.ty} (h : LSm l) (hn : l.length ≤ 1000) : LOk l := ⟨hn, fun s hs => ⟨h.o s hs, by
  have h1 := lensum_mem hs
  have h2 := h.b
  unfold Sg.len at h1
  omega⟩⟩
theorem LSm.sub {l m : List S35.ty} (h : LSm l) (hs : m.Sublist l) : LSm m := ⟨fun s hm => h.o s (hs.subset hm), Nat.le_trans (by
  have : ∀ {l m : List S35.ty}, m.Sublist l → lensum m ≤ lensum l := by
    intro l m hs
    induction hs with
    | slnil => exact Nat.le_refl _
    | cons x _ ih => simp only [lensum, List.map_cons, List.sum_cons] at *; omega
    | cons_cons x _ ih => simp only [lensum, List.map_cons, List.sum_cons] at *; omega
  exact this hs) h.b⟩
theorem gt_len {l : List S35.ty} {n : Nat} : (decide (((List.length l : Nat) : Int) > (n : Int))) = decide (n < l.length) := by
  rw [Bool.eq_iff_iff, decide_eq_true_eq, decide_eq_true_eq]; omega
theorem l_TraceTexts {x0 : List S35.ty} {x1 : S35.ty} (h0 : LSm x0) (h1 : SgOk x1) (hb : Sg.len x1 ≤ 1048576) : F_congresslaw26_TraceTexts x0 x1 = some true := by
  unfold F_congresslaw26_TraceTexts
  rw [l_fixed]
  by_cases hn : 200 < x0.length
  · rw [if_pos (decide_eq_true (by omega))]; rfl
  · have hb0 := h0.b
    rw [if_neg (by rw [decide_eq_true_eq]; omega), Option.bind_some, if_pos rfl, f_lineT h1 (by omega), f_lineR h1 (by omega), Option.bind_some, Option.bind_some, if_pos (by simp), f_textT h0.o h0.b (by omega), f_textR h0.o h0.b (by omega)]
    simp
theorem l_TraceChecks {x0 : List S35.ty} {x1 : S35.ty} (h0 : LSm x0) (h1 : SgOk x1) : F_congresslaw26_TraceChecks x0 x1 = some true := by
  unfold F_congresslaw26_TraceChecks
  rw [l_fixed]
  by_cases hn : 200 < x0.length
  · rw [if_pos (decide_eq_true (by omega))]; rfl
  · have h := h0.lok (by omega)
    rw [if_neg (by rw [decide_eq_true_eq]; omega), f_checkT h, f_checkR h, Option.bind_some, Option.bind_some, Option.bind_some, if_pos rfl, if_pos (by simp), if_pos (by simp), f_agreeT h.n, f_agreeR h.n, Option.bind_some, Option.bind_some, if_pos (by simp), f_ofT h.n, f_ofR h.n, Option.bind_some, Option.bind_some, f_sights (Nat.le_trans (ofL_len _ _) h.n)]
    rfl
theorem l_TraceParts {x0 : List S35.ty} {x1 : S35.ty} {x2 : Int} (h0 : LSm x0) (h1 : SgOk x1) : F_congresslaw26_TraceParts x0 x1 x2 = some true := by
  unfold F_congresslaw26_TraceParts
  rw [l_fixed]
  have e1 : ∀ f : Bool → Option Bool, f false = some true → (show Option Bool from (some true).bind fun t12 => (if (!t12) = true then some true else if (decide (((List.length x0 : Nat) : Int) > 100)) = true then some true else if (decide (x2 < 0)) = true then some true else some (decide (x2 > ((List.length x0 : Nat) : Int))))).bind f = if 100 < x0.length ∨ x2 < 0 ∨ ((x0.length : Nat) : Int) < x2 then f true else some true := by
    intro f hf
    rw [Option.bind_some, if_neg (by decide)]
    by_cases a : 100 < x0.length
    · rw [if_pos (decide_eq_true (by omega)), if_pos (.inl a)]; rfl
    rw [if_neg (by rw [decide_eq_true_eq]; omega)]
    by_cases b : x2 < 0
    · rw [if_pos (decide_eq_true (by omega)), if_pos (.inr (.inl b))]; rfl
    rw [if_neg (by rw [decide_eq_true_eq]; omega)]
    by_cases c : ((x0.length : Nat) : Int) < x2
    · rw [if_pos (.inr (.inr c)), Option.bind_some, decide_eq_true (show x2 > ((x0.length : Nat) : Int) from c)]
    · rw [if_neg (by omega), Option.bind_some, decide_eq_false (show ¬ x2 > ((x0.length : Nat) : Int) from c), hf]
  by_cases hg : 100 < x0.length ∨ x2 < 0 ∨ ((x0.length : Nat) : Int) < x2
  · have e2 : (show Option Bool from (some true).bind fun t12 => (if (!t12) = true then some true else if (decide (((List.length x0 : Nat) : Int) > 100)) = true then some true else if (decide (x2 < 0)) = true then some true else some (decide (x2 > ((List.length x0 : Nat) : Int))))) = some true := by
      rw [Option.bind_some, if_neg (by decide)]
      rcases hg with a | b | c
      · rw [if_pos (decide_eq_true (by omega))]
      · split
        · rfl
        · rw [if_pos (decide_eq_true (by omega))]
      · split
        · rfl
        · split
          · rfl
          · rw [decide_eq_true (show x2 > ((x0.length : Nat) : Int) from c)]
    rw [e2]
    rfl
  · have hn : ¬ 100 < x0.length := fun h => hg (.inl h)
    have h2 : 0 ≤ x2 := by omega
    have h3 : x2 ≤ ((x0.length : Nat) : Int) := by omega
    have e2 : (show Option Bool from (some true).bind fun t12 => (if (!t12) = true then some true else if (decide (((List.length x0 : Nat) : Int) > 100)) = true then some true else if (decide (x2 < 0)) = true then some true else some (decide (x2 > ((List.length x0 : Nat) : Int))))) = some false := by
      rw [Option.bind_some, if_neg (by decide), if_neg (by rw [decide_eq_true_eq]; omega), if_neg (by rw [decide_eq_true_eq]; omega), decide_eq_false (by omega)]
    have h := h0.lok (by omega)
    obtain ⟨n, rfl⟩ : ∃ n : Nat, x2 = (n : Int) := ⟨x2.toNat, by omega⟩
    have hnl : n ≤ x0.length := by omega
    have so : (ofL x0 x1).Sublist x0 := List.filter_sublist
    have ed : List.drop 0 (List.take (Int.toNat (n : Int)) x0) = x0.take n := by simp
    have ed2 : List.drop (Int.toNat (n : Int)) (List.take (List.length x0) x0) = x0.drop n := by simp
    have st : (x0.take n).Sublist x0 := List.take_sublist _ _
    have sd : (x0.drop n).Sublist x0 := List.drop_sublist _ _
    rw [e2, Option.bind_some, if_neg (by decide), f_ofT h.n, Option.bind_some, f_ofT (Nat.le_trans (ofL_len _ _) h.n), ofL_idem, Option.bind_some, f_sights (Nat.le_trans (ofL_len _ _) h.n), Option.bind_some, if_neg (by decide), f_textT h0.o h0.b (by omega), Option.bind_some]
    have g1 : ((0 : Int) ≤ (n : Int) ∧ 0 ≤ Int.toNat (n : Int) ∧ Int.toNat (n : Int) ≤ List.length x0) := ⟨by omega, by omega, by simpa using hnl⟩
    have g2 : ((0 : Int) ≤ (n : Int) ∧ Int.toNat (n : Int) ≤ List.length x0 ∧ List.length x0 ≤ List.length x0) := ⟨by omega, by simpa using hnl, Nat.le_refl _⟩
    have l1 := texts_len (l := x0.take n) (h0.sub st).o
    have l2 := texts_len (l := x0.drop n) (h0.sub sd).o
    have l3 := (h0.sub st).b
    have l4 := (h0.sub sd).b
    have l5 := st.length_le
    have l6 := sd.length_le
    have g3 : List.length (texts (x0.take n)) + List.length (texts (x0.drop n)) ≤ maxLen := by show _ ≤ (9223372036854775807 : Nat); omega
    have eb : (!(texts x0 == texts x0)) = false := by simp
    simp only [if_pos g1, if_pos g2, ed, ed2, f_textT (h0.sub st).o (h0.sub st).b (by omega), f_textT (h0.sub sd).o (h0.sub sd).b (by omega), Option.bind_some, if_pos g3, ← texts_app, List.take_append_drop, eb]
    rw [if_neg Bool.false_ne_true, f_agreeT h.n, Option.bind_some]
    cases ha : agreeS x0 with
    | false => rfl
    | true =>
      rw [if_neg (by decide), f_agreeT (Nat.le_trans (ofL_len _ _) h.n), agree_sub so ha, Option.bind_some, if_pos rfl, f_agreeT (h.sub sd).n, agree_sub sd ha, Option.bind_some, if_pos rfl, f_agreeT (h.sub st).n, agree_sub st ha]
      rfl
end Go.Proofs.YtlhbekiplnmolaaDoor
