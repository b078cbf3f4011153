/- The four laws of layer 19, in plain Lean. -/
import Derived.Test.YtjnaphniplfpkaaS9
import Derived.Test.YtjnaphniplfpkaaEL
set_option linter.unusedVariables false
set_option linter.unusedSimpArgs false
namespace Go.Proofs.Ytjnaphniplfpkaa
open Go.RowKit Go.Sort Go.IntWalk

/-! ### What is taken, and what still waits -/
theorem x_split {x : List EntS} {s : Int} (h : s ∈ x.map ses) : x = x.take (ixS x s) ++ List.getD x (ixS x s) S36.dflt :: x.drop (ixS x s + 1) := by
  have hl := ix_lt h
  rw [ge_eq x hl, ← List.drop_eq_getElem_cons hl, List.take_append_drop]
theorem head_no (x : List EntS) (s : Int) : (x.take (ixS x s)).filter (fun e => ses e == s) = [] := by
  rw [List.filter_eq_nil_iff]
  intro e he
  obtain ⟨j, hj, rfl⟩ := List.getElem_of_mem he
  have hj2 : j < ixS x s := by rw [List.length_take] at hj; omega
  have := List.not_of_lt_findIdx hj2
  rw [List.getElem_take]
  simpa using this
theorem wo_filter {x : List EntS} {s : Int} (h : s ∈ x.map ses) (t : Int) : x.filter (fun e => ses e == t) = (if s = t then [List.getD x (ixS x s) S36.dflt] else []) ++ (wo x s).filter (fun e => ses e == t) := by
  have hs := ix_ses h
  conv => lhs; rw [x_split h]
  unfold wo
  rw [List.filter_append, List.filter_append, List.filter_cons, hs]
  by_cases e : s = t
  · subst e
    rw [head_no]
    simp
  · simp [e]
theorem wo_sub {x : List EntS} {s t : Int} (h : t ∈ (wo x s).map ses) : t ∈ x.map ses := by
  obtain ⟨e, he, ht⟩ := List.mem_map.1 h
  refine List.mem_map.2 ⟨e, ?_, ht⟩
  unfold wo at he
  rcases List.mem_append.1 he with he | he
  · exact List.mem_of_mem_take he
  · exact List.mem_of_mem_drop he
theorem wo_keep {x : List EntS} {s t : Int} (hs : s ∈ x.map ses) (h : t ∈ x.map ses) (hne : t ≠ s) : t ∈ (wo x s).map ses := by
  obtain ⟨e, he, ht⟩ := List.mem_map.1 h
  have h1 : e ∈ x.filter (fun e => ses e == t) := List.mem_filter.2 ⟨he, by simp [ht]⟩
  rw [wo_filter hs t, if_neg (fun e => hne e.symm)] at h1
  rw [List.nil_append] at h1
  exact List.mem_map.2 ⟨e, (List.mem_filter.1 h1).1, ht⟩

theorem fill_len : ∀ (n : Nat) (x : List EntS) (last : Int), (fillP n x last).1.length = min n x.length ∧ (fillP n x last).1.length + (fillP n x last).2.1.length = x.length
  | 0, x, last => by simp [fillP]
  | n + 1, x, last => by
    cases h : nextP (x.map ses) last with
    | none =>
      rw [fill_none h]
      have : x = [] := by simpa using next_none h
      subst this
      simp
    | some s =>
      have hm := next_mem h
      have hw := wo_len hm
      have ih := fill_len n (wo x s) s
      rw [fill_some h]
      simp only [List.length_cons]
      omega
theorem fill_filter (t : Int) : ∀ (n : Nat) (x : List EntS) (last : Int), (fillP n x last).1.filter (fun e => ses e == t) ++ (fillP n x last).2.1.filter (fun e => ses e == t) = x.filter (fun e => ses e == t)
  | 0, x, last => by simp [fillP]
  | n + 1, x, last => by
    cases h : nextP (x.map ses) last with
    | none => rw [fill_none h]; simp
    | some s =>
      have hm := next_mem h
      have ih := fill_filter t n (wo x s) s
      rw [fill_some h, wo_filter hm t, ← ih, List.filter_cons, ix_ses hm]
      by_cases e : s = t
      · simp [e]
      · simp [e]
theorem fill_parts : ∀ (n m : Nat) (x : List EntS) (last : Int), fillP (n + m) x last = ((fillP n x last).1 ++ (fillP m (fillP n x last).2.1 (fillP n x last).2.2).1, (fillP m (fillP n x last).2.1 (fillP n x last).2.2).2.1, (fillP m (fillP n x last).2.1 (fillP n x last).2.2).2.2)
  | 0, m, x, last => by simp [fillP]
  | n + 1, m, x, last => by
    cases h : nextP (x.map ses) last with
    | none => rw [fill_none h, fill_none h]; simp [fill_none h]
    | some s =>
      rw [show n + 1 + m = (n + m) + 1 by omega, fill_some h, fill_some h, fill_parts n m (wo x s) s]
      simp
theorem fill_last : ∀ (n : Nat) (x : List EntS) (last : Int), (fillP n x last).2.2 = ((fillP n x last).1.map ses).getLastD last
  | 0, x, last => rfl
  | n + 1, x, last => by
    cases h : nextP (x.map ses) last with
    | none => rw [fill_none h]; rfl
    | some s =>
      rw [fill_some h]
      simp only [List.map_cons, ix_ses (next_mem h)]
      rw [fill_last n (wo x s) s]
      generalize List.map ses (fillP n (wo x s) s).1 = l
      cases l <;> simp [List.getLastD]

/-! ### Whose turns come -/
def gen (S : List Int) : Nat → Int → List Int
  | 0, _ => []
  | n + 1, last => match nextP S last with
    | none => []
    | some s => s :: gen S n s
theorem gen_some {S : List Int} {n : Nat} {last s : Int} (h : nextP S last = some s) : gen S (n + 1) last = s :: gen S n s := by simp only [gen]; rw [h]
/-- The next one of some is that of all, if it is there. -/
theorem next_sub {S l : List Int} {last s : Int} (h : nextP S last = some s) (hs : s ∈ l) (hl : ∀ y ∈ l, y ∈ S) : nextP l last = some s := by
  unfold nextP at h ⊢
  cases hA : leastP (S.filter fun s => decide (s > last)) with
  | some b =>
    rw [hA] at h
    obtain rfl := Option.some.inj h
    obtain ⟨h1, h2⟩ := least_some hA
    have : leastP (l.filter fun s => decide (s > last)) = some b := least_of (List.mem_filter.2 ⟨hs, (List.mem_filter.1 h1).2⟩) fun y hy => h2 y (List.mem_filter.2 ⟨hl y (List.mem_filter.1 hy).1, (List.mem_filter.1 hy).2⟩)
    rw [this]
  | none =>
    rw [hA] at h
    have hS := least_none hA
    have : l.filter (fun s => decide (s > last)) = [] := by
      rw [List.filter_eq_nil_iff] at hS ⊢
      exact fun y hy => hS y (hl y hy)
    rw [this]
    obtain ⟨h1, h2⟩ := least_some h
    exact least_of hs fun y hy => h2 y (hl y hy)
theorem fill_gen {S : List Int} : ∀ (n : Nat) (x : List EntS) (last : Int), (gen S n last).Nodup → (gen S n last).length = n → (∀ y ∈ gen S n last, y ∈ x.map ses) → (∀ y ∈ x.map ses, y ∈ S) → (fillP n x last).1.map ses = gen S n last
  | 0, x, last, _, _, _, _ => rfl
  | n + 1, x, last, hn, hl, hg, hx => by
    cases h : nextP S last with
    | none => simp only [gen] at hl; rw [h] at hl; simp at hl
    | some s =>
      rw [gen_some h] at hn hl hg ⊢
      rw [List.nodup_cons] at hn
      have hs : s ∈ x.map ses := hg s (by simp)
      have hN := next_sub h hs hx
      rw [fill_some hN]
      simp only [List.map_cons, ix_ses hs]
      rw [fill_gen n (wo x s) s hn.2 (by simpa using hl) (fun y hy => wo_keep hs (hg y (List.mem_cons_of_mem _ hy)) fun e => hn.1 (e ▸ hy)) (fun y hy => hx y (wo_sub hy))]
theorem next_up {u v : List Int} {q last : Int} (hu : ∀ a ∈ u, a ≤ last) (hv : ∀ b ∈ q :: v, last < b) (hp : List.Pairwise (fun a b : Int => a < b) (q :: v)) : nextP (u ++ q :: v) last = some q := by
  have hf : (u ++ q :: v).filter (fun s => decide (s > last)) = q :: v := by
    rw [List.filter_append]
    have h1 : u.filter (fun s => decide (s > last)) = [] := by
      rw [List.filter_eq_nil_iff]; intro a ha; have := hu a ha; simp; omega
    have h2 : (q :: v).filter (fun s => decide (s > last)) = q :: v := by
      rw [List.filter_eq_self]; intro a ha; have := hv a ha; simp; omega
    rw [h1, h2]; rfl
  unfold nextP
  rw [hf, least_of (b := q) (by simp) fun y hy => by
    rcases List.mem_cons.1 hy with rfl | hy
    · omega
    · have := (List.pairwise_cons.1 hp).1 y hy; omega]
theorem next_over {q : Int} {u : List Int} {last : Int} (hu : ∀ a ∈ q :: u, a ≤ last) (hp : List.Pairwise (fun a b : Int => a < b) (q :: u)) : nextP (q :: u) last = some q := by
  have hf : (q :: u).filter (fun s => decide (s > last)) = [] := by
    rw [List.filter_eq_nil_iff]; intro a ha; have := hu a ha; simp; omega
  unfold nextP
  rw [hf]
  exact least_of (by simp) fun y hy => by
    rcases List.mem_cons.1 hy with rfl | hy
    · omega
    · have := (List.pairwise_cons.1 hp).1 y hy; omega
theorem gen_up : ∀ (v : List Int) (k : Nat) (u : List Int) (last : Int), List.Pairwise (fun a b : Int => a < b) (u ++ v) → (∀ a ∈ u, a ≤ last) → (∀ b ∈ v, last < b) → k ≤ v.length → gen (u ++ v) k last = v.take k
  | v, 0, u, last, _, _, _, _ => by simp [gen]
  | [], k + 1, u, last, _, _, _, hk => by simp at hk
  | q :: v, k + 1, u, last, hp, hu, hv, hk => by
    have hp' := (List.pairwise_append.1 hp)
    rw [gen_some (next_up hu hv hp'.2.1)]
    have := gen_up v k (u ++ [q]) q (by simpa using hp) (fun a ha => by
      rcases List.mem_append.1 ha with h | h
      · have := hu a h; have := hv q (by simp); omega
      · simp only [List.mem_singleton] at h; omega) (fun b hb => (List.pairwise_cons.1 hp'.2.1).1 b hb) (by simpa using hk)
    rw [show u ++ q :: v = u ++ [q] ++ v by simp, this]
    rfl
theorem gen_round : ∀ (v : List Int) (k : Nat) (u : List Int) (last : Int), List.Pairwise (fun a b : Int => a < b) (u ++ v) → (∀ a ∈ u, a ≤ last) → (∀ b ∈ v, last < b) → k ≤ u.length → gen (u ++ v) (v.length + k) last = v ++ u.take k
  | [], 0, u, last, _, _, _, _ => by simp [gen]
  | [], k + 1, [], last, _, _, _, hk => by simp at hk
  | [], k + 1, q :: u, last, hp, hu, _, hk => by
    rw [List.append_nil] at hp ⊢
    rw [show ([] : List Int).length + (k + 1) = k + 1 by simp, gen_some (next_over hu hp)]
    have := gen_up u k [q] q (by simpa using hp) (by simp) (fun b hb => (List.pairwise_cons.1 hp).1 b hb) (by simpa using hk)
    rw [show q :: u = [q] ++ u by rfl, this]
    rfl
  | q :: v, k, u, last, hp, hu, hv, hk => by
    have hp' := (List.pairwise_append.1 hp)
    rw [show (q :: v).length + k = (v.length + k) + 1 by simp; omega, gen_some (next_up hu hv hp'.2.1)]
    have := gen_round v k (u ++ [q]) q (by simpa using hp) (fun a ha => by
      rcases List.mem_append.1 ha with h | h
      · have := hu a h; have := hv q (by simp); omega
      · simp only [List.mem_singleton] at h; omega) (fun b hb => (List.pairwise_cons.1 hp'.2.1).1 b hb) (by simp; omega)
    rw [show u ++ q :: v = u ++ [q] ++ v by simp, this, List.take_append_of_le_length hk]
    rfl
theorem sorted_split (last : Int) : ∀ (S : List Int), List.Pairwise (fun a b : Int => a < b) S → ∃ u v, S = u ++ v ∧ (∀ a ∈ u, a ≤ last) ∧ ∀ b ∈ v, last < b
  | [], _ => ⟨[], [], rfl, by simp, by simp⟩
  | q :: S, hp => by
    rw [List.pairwise_cons] at hp
    by_cases h : q ≤ last
    · obtain ⟨u, v, rfl, h1, h2⟩ := sorted_split last S hp.2
      refine ⟨q :: u, v, rfl, fun a ha => ?_, h2⟩
      rcases List.mem_cons.1 ha with rfl | ha
      · exact h
      · exact h1 a ha
    · refine ⟨[], q :: S, rfl, by simp, fun b hb => ?_⟩
      rcases List.mem_cons.1 hb with rfl | hb
      · omega
      · have := hp.1 b hb; omega

/-! ### How often it goes down -/
def downs : Int → List Int → Nat
  | _, [] => 0
  | p, r :: l => (if r ≤ p then 1 else 0) + downs r l
theorem downs_up : ∀ (l : List Int) (p : Int), List.Pairwise (fun a b : Int => a < b) (p :: l) → downs p l = 0
  | [], _, _ => rfl
  | r :: l, p, h => by
    rw [List.pairwise_cons] at h
    have := h.1 r (by simp)
    rw [downs, if_neg (by omega), downs_up l r h.2]
theorem downs_round (u : List Int) (hu : List.Pairwise (fun a b : Int => a < b) u) : ∀ (v : List Int) (p : Int), List.Pairwise (fun a b : Int => a < b) (p :: v) → downs p (v ++ u) ≤ 1
  | [], p, _ => by
    cases u with
    | nil => simp [downs]
    | cons q u =>
      rw [List.nil_append, downs, downs_up u q hu]
      split <;> omega
  | r :: v, p, h => by
    rw [List.pairwise_cons] at h
    have := h.1 r (by simp)
    rw [List.cons_append, downs, if_neg (by omega)]
    have := downs_round u hu v r h.2
    omega
theorem f_downs (t : List EntS × List EntS × Int) (hn : t.1.length ≤ 1000) : ∀ (m i c : Nat) (at' : Int), t.1.length - i ≤ m → i ≤ t.1.length → c ≤ i → loopO (F_congresslaw19_SchedFair_b5 t) ((c : Int), at', (i : Int)) = some (((c + downs at' ((t.1.drop i).map ses) : Nat) : Int)) := by
  intro m
  induction m with
  | zero =>
    intro i c a hm hi hc
    rw [List.drop_eq_nil_of_le (by omega)]
    refine loopO_end ?_
    simp (disch := omega) only [F_congresslaw19_SchedFair_b5, decide_eq_true_eq, if_neg]
    rfl
  | succ m ih =>
    intro i c a hm hi hc
    by_cases h : i < t.1.length
    · rw [List.drop_eq_getElem_cons h, List.map_cons, downs]
      have es : t.1[i].2.2.2.1 = ses t.1[i] := rfl
      by_cases hd : ses t.1[i] ≤ a
      · rw [if_pos hd, ← Nat.add_assoc, ← ih (i + 1) (c + 1) (ses t.1[i]) (by omega) (by omega) (by omega)]
        refine loopO_go ?_
        simp (disch := omega) only [F_congresslaw19_SchedFair_b5, decide_eq_true_eq, if_pos, wr, Int.toNat_natCast, ge_eq t.1 h, es]
        rfl
      · rw [if_neg hd, Nat.zero_add, ← ih (i + 1) c (ses t.1[i]) (by omega) (by omega) (by omega)]
        refine loopO_go ?_
        simp (disch := omega) only [F_congresslaw19_SchedFair_b5, decide_eq_true_eq, if_pos, if_neg, wr, Int.toNat_natCast, ge_eq t.1 h, es]
        rfl
    · rw [List.drop_eq_nil_of_le (by omega)]
      refine loopO_end ?_
      simp (disch := omega) only [F_congresslaw19_SchedFair_b5, decide_eq_true_eq, if_neg]
      rfl

/-! ### The laws -/
theorem tellsHolds (x0 : List EntS) (h0 : Sh.ok (.sl S36) x0) (z0 : List.length x0 * 56 ≤ 140737488351232) (x1 : Int) (h1 : Sh.ok (.int .u64) x1) (x2 : Int) (h2 : Sh.ok (.int .i64) x2) : F_congresslaw19_SchedTells x0 x1 x2 = some true := by
  unfold F_congresslaw19_SchedTells
  rw [f_fixed]
  by_cases h : x0.length > 300
  · rw [if_pos (by simp; omega)]; rfl
  · rw [if_neg (by simp; omega), f_schedTurn x0 x1 (by omega)]
    simp only [Option.bind_some]
    rw [f_refTurn x0 x1 (by omega)]
    simp only [Option.bind_some]
    rw [f_schedFill x0 x1 x2 (by omega)]
    simp only [Option.bind_some]
    rw [f_refFill x0 x1 x2 (by omega)]
    simp only [Option.bind_some]
    obtain ⟨l1, l2⟩ := fill_len (slotsN x2) x0 x1
    rw [if_pos trivial, if_pos (by simp), if_pos (by simp), f_entries _ (by omega)]
    simp only [Option.bind_some]
    rw [if_pos trivial, f_entries _ (by omega)]
    simp only [Option.bind_some]
    rw [if_pos trivial, if_pos (by simp)]
    obtain ⟨S, g1, g2, g3⟩ := f_Sessions x0 (by omega)
    obtain ⟨S', k1, k2, k3⟩ := f_refSessions x0 (by omega)
    have e : S = S' := strict_unique g2 k2 fun y => by rw [g3, k3]
    have hS : S.length ≤ x0.length := by
      have hnd : S.Nodup := g2.imp fun h => by omega
      have := (List.Nodup.length_le_of_subset hnd fun s hs => (g3 s).1 hs)
      simpa using this
    rw [g1, k1, ← e]
    simp only [Option.bind_some]
    rw [f_same S (by omega)]
    rfl
theorem partsHolds (x0 : List EntS) (h0 : Sh.ok (.sl S36) x0) (z0 : List.length x0 * 56 ≤ 140737488351232) (x1 : Int) (h1 : Sh.ok (.int .u64) x1) (x2 : List Int) (h2 : Sh.ok (.arr 2 (.int .i64)) x2) : F_congresslaw19_SchedParts x0 x1 x2 = some true := by
  obtain ⟨l2, k2⟩ := h2
  match x2, l2, k2 with
  | [n, m], _, k2 =>
    unfold F_congresslaw19_SchedParts
    rw [f_fixed]
    have e0 : List.getD [n, m] (Int.toNat 0) 0 = n := rfl
    have e1 : List.getD [n, m] (Int.toNat 1) 0 = m := rfl
    rw [e0, e1]
    simp only [Option.bind_some]
    by_cases c : x0.length ≤ 100 ∧ 0 ≤ n ∧ n ≤ 8 ∧ 0 ≤ m ∧ m ≤ 8
    · obtain ⟨c1, c2, c3, c4, c5⟩ := c
      rw [if_neg (by simp), if_neg (by simp; omega), if_neg (by simp; omega), if_neg (by simp; omega), if_neg (by simp; omega)]
      simp only [Option.bind_some]
      rw [if_neg (by simp; omega), f_schedFill x0 x1 n (by omega)]
      simp only [Option.bind_some]
      obtain ⟨a1, a2⟩ := fill_len (slotsN n) x0 x1
      obtain ⟨b1, b2⟩ := fill_len (slotsN m) (fillP (slotsN n) x0 x1).2.1 (fillP (slotsN n) x0 x1).2.2
      rw [f_schedFill _ _ m (by omega)]
      simp only [Option.bind_some]
      rw [wr (by omega), f_schedFill x0 x1 (n + m) (by omega)]
      simp only [Option.bind_some]
      have es : slotsN (n + m) = slotsN n + slotsN m := by unfold slotsN mx mn; (repeat' split) <;> omega
      have hp := fill_parts (slotsN n) (slotsN m) x0 x1
      rw [es, hp]
      rw [if_pos (apOk_of (by omega) (by decide)), if_pos (apOk_of (by simp; omega) (by decide)), List.nil_append, f_entries _ (by rw [List.length_append]; omega)]
      simp only [Option.bind_some]
      rw [if_pos trivial, f_entries _ (by omega)]
      simp
    · have : ∃ r, (if (!true) = true then some true else if (decide (((List.length x0 : Nat) : Int) > 100)) = true then some true else if (decide (n < 0)) = true then some true else if (decide (n > 8)) = true then some true else if (decide (m < 0)) = true then some true else some (decide (m > 8))) = some r ∧ r = true := by
        by_cases d1 : x0.length > 100
        · exact ⟨true, by rw [if_neg (by simp), if_pos (by simp; omega)], rfl⟩
        · by_cases d2 : n < 0
          · exact ⟨true, by rw [if_neg (by simp), if_neg (by simp; omega), if_pos (by simp; omega)], rfl⟩
          · by_cases d3 : n > 8
            · exact ⟨true, by rw [if_neg (by simp), if_neg (by simp; omega), if_neg (by simp; omega), if_pos (by simp; omega)], rfl⟩
            · by_cases d4 : m < 0
              · exact ⟨true, by rw [if_neg (by simp), if_neg (by simp; omega), if_neg (by simp; omega), if_neg (by simp; omega), if_pos (by simp; omega)], rfl⟩
              · exact ⟨true, by rw [if_neg (by simp), if_neg (by simp; omega), if_neg (by simp; omega), if_neg (by simp; omega), if_neg (by simp; omega)]; simp; omega, rfl⟩
      obtain ⟨r, hr, rfl⟩ := this
      rw [hr]
      rfl

theorem keepsHolds (x0 : List EntS) (h0 : Sh.ok (.sl S36) x0) (z0 : List.length x0 * 56 ≤ 140737488351232) (x1 : Int) (h1 : Sh.ok (.int .u64) x1) (x2 : Int) (h2 : Sh.ok (.int .i64) x2) : F_congresslaw19_SchedKeeps x0 x1 x2 = some true := by
  unfold F_congresslaw19_SchedKeeps
  rw [f_fixed]
  simp only [Option.bind_some]
  rw [if_neg (by simp)]
  simp only [Option.bind_some]
  by_cases c : x0.length > 100
  · rw [if_pos (by simp; omega)]
  rw [if_neg (by simp; omega), f_schedFill x0 x1 x2 (by omega)]
  simp only [Option.bind_some]
  obtain ⟨a1, a2⟩ := fill_len (slotsN x2) x0 x1
  have hN : ((slotsN x2 : Nat) : Int) = mx 0 (mn x2 16) := by have := slotsN_eq x2; omega
  have e1 : ((fillP (slotsN x2) x0 x1).1.length : Int) = mx 0 (mn (mn x2 16) (x0.length : Int)) := by
    rw [a1]
    unfold mx mn at hN ⊢
    split at hN <;> split at hN <;> (repeat' split) <;> omega
  rw [wr (by omega), if_neg (by simp; omega)]
  simp only [Option.bind_some]
  rw [if_neg (by simp; omega)]
  obtain ⟨S, g1, g2, g3⟩ := f_Sessions x0 (by omega)
  have hS : S.length ≤ x0.length := by
    have hnd : S.Nodup := g2.imp fun h => by omega
    have := (List.Nodup.length_le_of_subset hnd fun s hs => (g3 s).1 hs)
    simpa using this
  rw [g1]
  simp only [Option.bind_some]
  have key : ∀ (m i : Nat), S.length - i ≤ m → loopO (F_congresslaw19_SchedKeeps_b3 (fillP (slotsN x2) x0 x1) S x0) (i : Int) = some (.inr ()) := by
    intro m
    induction m with
    | zero =>
      intro i hm
      refine loopO_end ?_
      simp (disch := omega) only [F_congresslaw19_SchedKeeps_b3, decide_eq_true_eq, if_neg]
    | succ m ih =>
      intro i hm
      by_cases h : i < S.length
      · rw [← ih (i + 1) (by omega)]
        refine loopO_go ?_
        unfold F_congresslaw19_SchedKeeps_b3
        have l1 := List.length_filter_le (fun e => ses e == List.getD S (Int.toNat (i : Int)) 0) (fillP (slotsN x2) x0 x1).1
        have l2 := List.length_filter_le (fun e => ses e == List.getD S (Int.toNat (i : Int)) 0) (fillP (slotsN x2) x0 x1).2.1
        rw [if_pos (by simp; omega), if_pos (by omega), f_of _ _ (by omega)]
        simp only [Option.bind_some]
        rw [if_pos (by omega), f_of _ _ (by omega)]
        simp only [Option.bind_some]
        rw [if_pos (apOk_of (by omega) (by decide)), if_pos (by omega), f_of _ _ (by omega)]
        simp only [Option.bind_some]
        rw [fill_filter]
        have l3 := List.length_filter_le (fun e => ses e == List.getD S (Int.toNat (i : Int)) 0) x0
        rw [f_entries _ (by omega), wr (by omega)]
        rfl
      · refine loopO_end ?_
        simp (disch := omega) only [F_congresslaw19_SchedKeeps_b3, decide_eq_true_eq, if_neg]
  have h0 : loopO (F_congresslaw19_SchedKeeps_b3 (fillP (slotsN x2) x0 x1) S x0) 0 = some (.inr ()) := key _ 0 (Nat.le_refl _)
  rw [h0]
  rfl

theorem fairHolds (x0 : List EntS) (h0 : Sh.ok (.sl S36) x0) (z0 : List.length x0 * 56 ≤ 140737488351232) (x1 : Int) (h1 : Sh.ok (.int .u64) x1) : F_congresslaw19_SchedFair x0 x1 = some true := by
  unfold F_congresslaw19_SchedFair
  rw [f_fixed]
  obtain ⟨S, g1, g2, g3⟩ := f_Sessions x0 (by omega)
  have hnd : S.Nodup := g2.imp fun h => by omega
  have hS : S.length ≤ x0.length := by
    have := (List.Nodup.length_le_of_subset hnd fun s hs => (g3 s).1 hs)
    simpa using this
  rw [g1]
  simp only [Option.bind_some]
  rw [if_neg (by simp)]
  by_cases c : x0.length > 100
  · rw [if_pos (by simp; omega)]; rfl
  rw [if_neg (by simp; omega)]
  simp only [Option.bind_some]
  by_cases c2 : S.length > 16
  · rw [if_pos (by simp; omega)]
  rw [if_neg (by simp; omega), f_schedFill x0 x1 _ (by omega)]
  simp only [Option.bind_some]
  have hN : slotsN (S.length : Int) = S.length := by unfold slotsN mx mn; split <;> split <;> omega
  rw [hN]
  obtain ⟨a1, a2⟩ := fill_len S.length x0 x1
  -- whose turns came
  obtain ⟨u, v, e, hu, hv⟩ := sorted_split x1 S g2
  have hg : gen S S.length x1 = v ++ u := by
    have := gen_round v u.length u x1 (by rw [← e]; exact g2) hu hv (Nat.le_refl _)
    rw [List.take_length, ← e] at this
    rw [← this]
    congr 1
    rw [e, List.length_append]; omega
  have hpm : (v ++ u).Perm S := by rw [e]; exact List.perm_append_comm
  have hR : (fillP S.length x0 x1).1.map ses = v ++ u := by
    rw [← hg]
    refine fill_gen S.length x0 x1 (by rw [hg]; exact hpm.nodup_iff.2 hnd) (by rw [hg]; exact hpm.length_eq) (fun y hy => ?_) (fun y hy => (g3 y).2 hy)
    rw [hg] at hy
    exact (g3 y).1 (hpm.mem_iff.1 hy)
  have hlast := fill_last S.length x0 x1
  generalize fillP S.length x0 x1 = t at a1 a2 hR hlast ⊢
  have ht : t.1.length = S.length := by omega
  rw [if_neg (by simp; omega), wr (by omega)]
  simp only [Option.bind_some]
  rw [if_neg (by simp; omega)]
  have key : ∀ (m i : Nat), S.length - i ≤ m → loopO (F_congresslaw19_SchedFair_b3 S t) (i : Int) = some (.inr ()) := by
    intro m
    induction m with
    | zero =>
      intro i hm
      refine loopO_end ?_
      simp (disch := omega) only [F_congresslaw19_SchedFair_b3, decide_eq_true_eq, if_neg]
    | succ m ih =>
      intro i hm
      by_cases h : i < S.length
      · rw [← ih (i + 1) (by omega)]
        refine loopO_go ?_
        unfold F_congresslaw19_SchedFair_b3
        rw [if_pos (by simp; omega), if_pos (by omega), f_of _ _ (by omega)]
        simp only [Option.bind_some]
        have hc : (t.1.filter fun e => ses e == List.getD S (Int.toNat (i : Int)) 0).length = 1 := by
          rw [Int.toNat_natCast, gi_eq S h]
          have h1 : (t.1.filter fun e => ses e == S[i]).length = (t.1.map ses).count S[i] := by
            rw [List.count, List.countP_map, List.countP_eq_length_filter]
            rfl
          rw [h1, hR, List.Nodup.count (hpm.nodup_iff.2 hnd), if_pos (hpm.mem_iff.2 (List.getElem_mem h))]
        rw [hc, if_neg (by simp), wr (by omega)]
        rfl
      · refine loopO_end ?_
        simp (disch := omega) only [F_congresslaw19_SchedFair_b3, decide_eq_true_eq, if_neg]
  have h0 : loopO (F_congresslaw19_SchedFair_b3 S t) 0 = some (.inr ()) := key _ 0 (Nat.le_refl _)
  rw [h0]
  simp only [Option.bind_some, Sum.elim_inr]
  have endOk : (if (decide (((List.length t.1 : Nat) : Int) > 0)) = true then if 0 ≤ (IntKind.wrap .i64 (((List.length t.1 : Nat) : Int) - 1)) ∧ (IntKind.wrap .i64 (((List.length t.1 : Nat) : Int) - 1)) < ((List.length t.1 : Nat) : Int) then (some (t.2.2 != (((((List.getD t.1 (Int.toNat (IntKind.wrap .i64 (((List.length t.1 : Nat) : Int) - 1))) S36.dflt).2).2).2).1))) else none else some false) = some false := by
    by_cases hz : 0 < t.1.length
    · have e1 : ((List.length t.1 : Nat) : Int) - 1 = ((t.1.length - 1 : Nat) : Int) := by omega
      have hl : t.1.length - 1 < t.1.length := by omega
      have es : (t.1[t.1.length - 1]).2.2.2.1 = ses t.1[t.1.length - 1] := rfl
      rw [wr (by omega), e1, if_pos (by simp; omega), if_pos (by omega), Int.toNat_natCast, ge_eq t.1 hl, es, hlast]
      have hne : t.1.map ses ≠ [] := by intro h; rw [List.map_eq_nil_iff] at h; rw [h] at hz; simp at hz
      rw [List.getLastD_eq_getLast?, List.getLast?_eq_some_getLast hne, List.getLast_eq_getElem]
      simp
    · rw [if_neg (by simp only [decide_eq_true_eq]; omega)]
  rw [endOk]
  simp only [Option.bind_some]
  rw [if_neg (by simp)]
  have hd : loopO (F_congresslaw19_SchedFair_b5 t) (0, x1, 0) = _ := f_downs t (by omega) _ 0 0 x1 (Nat.le_refl _) (by omega) (by omega)
  rw [hd]
  simp only [Option.bind_some, List.drop_zero, Nat.zero_add]
  rw [hR]
  have g2' := g2
  rw [e, List.pairwise_append] at g2'
  have := downs_round u g2'.1 v x1 (List.pairwise_cons.2 ⟨hv, g2'.2.1⟩)
  simp
  omega
end Go.Proofs.Ytjnaphniplfpkaa
