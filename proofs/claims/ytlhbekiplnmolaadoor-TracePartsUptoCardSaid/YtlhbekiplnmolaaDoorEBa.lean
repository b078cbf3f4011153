/- The machine's side, told once: rows that are made and appended to. -/
import Derived.Test.YtlhbekiplnmolaaDoorEB
set_option linter.unusedVariables false
set_option linter.unusedSimpArgs false
namespace Go.Proofs.YtlhbekiplnmolaaDoor
open Go.RowKit

def bytesB (P : Program) (e : TypeId) : Nat := match P.info? e with | some i => i.bytes | none => 0
/-- The look at a row's element type. -/
def rowB (P : Program) (e : TypeId) (s : Sh) : Bool := match P.info? e with
  | some i => match i.zero with
    | some z => Nat.beq i.size s.size && Nat.beq z.cells.size s.size && !Nat.beq s.size 0 && s.fixed && s.isV && s.pers
    | none => false
  | none => false
/-- Values of one shape. -/
def listV (s : Sh) : List AVal → Option (List s.ty)
  | [] => some []
  | .v t x :: l => match coeS t s x, listV s l with
    | some y, some r => if t.agg == s.agg then some (y :: r) else none
    | _, _ => none
  | _ :: _ => none

section
variable {P : Program} {n0 : Nat} {b : Base n0} {M : Fz} {φ : Nat → Value} {ξ : Nat → Option Nat} {H : AStore} {w : World} {ρ : AEnv}

theorem rowB_ok {e : TypeId} {s : Sh} (h : rowB P e s = true) : ∃ i z, P.info? e = some i ∧ i.zero = some z ∧ i.size = s.size ∧ z.cells.size = s.size ∧ 0 < s.size ∧ s.fixed = true ∧ s.isV = true ∧ s.pers = true := by
  unfold rowB at h
  split at h
  · rename_i i hi
    split at h
    · rename_i z hz
      simp only [Bool.and_eq_true, Bool.not_eq_true'] at h
      obtain ⟨⟨⟨⟨⟨h1, h2⟩, h3⟩, h4⟩, h5⟩, h6⟩ := h
      refine ⟨i, z, hi, hz, Nat.eq_of_beq_eq_true h1, Nat.eq_of_beq_eq_true h2, ?_, h4, h5, h6⟩
      rcases Nat.eq_zero_or_pos s.size with h0 | h0
      · rw [h0] at h3; simp at h3
      · exact h0
    · cases h
  · cases h

theorem listV_ok {s : Sh} (hf : s.fixed = true) : ∀ {l : List AVal} {xs : List s.ty} {us : List Value}, listV s l = some xs → RelVs P M φ l us → ∃ css : List (List Value), us = css.map (mkV s) ∧ RepL (RepC P φ s M) css.flatten xs ∧ xs.length = us.length ∧ ∀ c ∈ css, c.length = s.size ∧ ∀ v ∈ c, v.oneCell' = true
  | [], xs, us, h, hr => by
    simp only [listV, Option.some.injEq] at h
    simp only [RelVs] at hr
    subst h hr
    exact ⟨[], rfl, rfl, rfl, fun c hc => by cases hc⟩
  | α :: l, xs, us, h, hr => by
    obtain ⟨u, r, rfl, h1, h2⟩ := hr
    cases α <;> simp only [listV, reduceCtorEq] at h
    rename_i t x
    split at h
    · rename_i y q k1 k2
      split at h
      · rename_i k3
        simp only [beq_iff_eq] at k3
        simp only [Option.some.injEq] at h
        subst h
        obtain ⟨_, cs, rfl, hc⟩ := h1
        have hc' := coeS_ok k1 hc
        obtain ⟨css, e1, e2, e3, e4⟩ := listV_ok hf k2 h2
        refine ⟨cs :: css, by simp [e1, mkV, k3], ⟨cs, css.flatten, by simp, hc', e2⟩, by simp [e3], fun c hm => ?_⟩
        rcases List.mem_cons.1 hm with rfl | hm
        · exact ⟨rep_len hf hc', rep_one hc'⟩
        · exact e4 c hm
      · cases h
    · cases h

/-- A slice literal whose elements are all told, in order. -/
def litA (P : Program) (n0 : Nat) (ρ : AEnv) (H : AStore) (T : TypeId) (n : Nat) (L : Nat) (is : List Nat) (l : List AVal) : Option (AVal × AStore) :=
  match slB P T with
  | some e => if rowB P e (shOf P false 20 e) && decide (is = List.range n) && Nat.ble (n * (shOf P false 20 e).size) 16777216 && freshB n0 L ρ H && Nat.beq l.length n then
      match listV (shOf P false 20 e) l with
      | some xs => some (.row L, (L, .row e (shOf P false 20 e) xs) :: H)
      | none => none
    else none
  | none => none

theorem does_lit0 {T : TypeId} {n L : Nat} {ps : Array (Nat × Operand)} {l : List AVal} {β : AVal} {H' : AStore} {ty et : TypeId} {dst pos after guard} (h : evL P ρ (ps.toList.map fun x => (et, x.2)) = some l) (hb : litA P n0 ρ H T n L (ps.toList.map (·.1)) l = some (β, H')) : ∀ M φ ξ w (a : Act), Core P b M φ ξ H w → EnvR P M φ ρ a.tmps → ∃ M' φ' ξ' w' v, ((execOp a.eval ⟨dst, .buildSlice T n ps, ty, pos, after, guard⟩).run P w = .ok (.value v) w' ∨ (v = undef ∧ (execOp a.eval ⟨dst, .buildSlice T n ps, ty, pos, after, guard⟩).run P w = .ok .skip w')) ∧ Core P b M' φ' ξ' H' w' ∧ EnvR P M' φ' ρ a.tmps ∧ Later L M M' φ φ' ∧ RelV P M' φ' β v ∧ ∀ g, ξ' L = some g → b.w.heap.size ≤ g := by
  intro M φ ξ w a hc he
  unfold litA at hb
  split at hb
  · rename_i e hT
    split at hb
    · rename_i hh
      simp only [Bool.and_eq_true, decide_eq_true_eq] at hh
      obtain ⟨⟨⟨⟨k1, k2⟩, k3⟩, k4⟩, k5⟩ := hh
      have k5 := Nat.eq_of_beq_eq_true k5
      split at hb
      · rename_i xs hx
        simp only [Option.some.injEq, Prod.mk.injEq] at hb
        obtain ⟨rfl, rfl⟩ := hb
        obtain ⟨i, z, hi, hz, hsz, hzs, h0, hf, hv, hp⟩ := rowB_ok k1
        generalize shOf P false 20 e = s at *
        have hr := evL_ok he h
        obtain ⟨css, e1, e2, e3, e4⟩ := listV_ok hf hx hr
        have hlu := relVs_len hr
        have hcl : css.length = n := by rw [← k5, ← hlu, e1, List.length_map]
        have hrel := evL_ok he h
        have hparts : (ps.map fun (x : Nat × Operand) => (x.1, a.eval x.2)).toList = (css.map (mkV s)).zipIdx.map fun x => (x.2, x.1) := by
          apply List.ext_getElem?
          intro j
          have q1 : (ps.toList.map (·.1))[j]? = (List.range n)[j]? := by rw [k2]
          have q2 : ((ps.toList.map fun x => (et, x.2)).map fun x => a.eval x.2)[j]? = (css.map (mkV s))[j]? := by rw [e1]
          simp only [Array.toList_map, List.getElem?_map, List.getElem?_zipIdx, Nat.zero_add] at q1 q2 ⊢
          cases hj : ps.toList[j]? with
          | none =>
            rw [hj] at q2
            simp only [Option.map_none] at q2
            cases hc' : css[j]? with
            | none => simp
            | some c => rw [hc'] at q2; simp at q2
          | some y =>
            rw [hj] at q1 q2
            simp only [Option.map_some] at q1 q2
            cases hc' : css[j]? with
            | none => rw [hc'] at q2; simp at q2
            | some c =>
              rw [hc'] at q2
              simp only [Option.map_some, Option.some.injEq] at q2
              have hjn : j < n := by rw [← hcl]; exact (List.getElem?_eq_some_iff.1 hc').1
              rw [List.getElem?_range hjn] at q1
              simp only [Option.some.injEq] at q1
              simp [q1, q2]
        have hlen : ∀ v ∈ css.map (mkV s), v.cells.size = s.size := by
          intro v hv'
          obtain ⟨c, hcm, rfl⟩ := List.mem_map.1 hv'
          obtain ⟨g1, g2⟩ := e4 c hcm
          rw [mkV_cells g1 hv g2]
          simpa using g1
        have hflat : ((css.map (mkV s)).flatMap fun v => v.cells.toList) = css.flatten := by
          clear hparts hlen e1 e2 e3 hcl hlu
          induction css with
          | nil => rfl
          | cons c css ih =>
            obtain ⟨g1, g2⟩ := e4 c (List.mem_cons_self ..)
            simp only [List.map_cons, List.flatMap_cons, List.flatten_cons]
            rw [ih (fun c hc => e4 c (List.mem_cons_of_mem _ hc)), mkV_cells g1 hv g2]
        have k3 := Nat.le_of_ble_eq_true k3
        rcases Nat.eq_zero_or_pos n with hn | hn
        · subst hn
          have hcss : css = [] := List.eq_nil_of_length_eq_zero hcl
          subst hcss
          have hxs : xs = [] := e2 |> fun e2 => by
            cases xs with
            | nil => rfl
            | cons x xs => obtain ⟨c, r, e, h1, _⟩ := e2; have := rep_len hf h1; simp at e; rw [e.1] at this; simp at this; omega
          subst hxs
          refine ⟨M, upd φ L (.slice (some ⟨w.heap.size, 0, none⟩) 0 0), upd ξ L (some w.heap.size), w.alloc (.cells #[] e), .slice (some ⟨w.heap.size, 0, none⟩) 0 0, .inl ?_, ?_, he.labs (fresh_env k4 _ _), ⟨Fz.le_refl _, fun l hl => upd_ne (by omega)⟩, (by rw [RelV, upd_same]; exact ⟨rfl, rfl⟩), fun g hg => (by rw [upd_same] at hg; cases hg; exact hc.below.size)⟩
          · show (vN (Instr.buildSlice T 0 (ps.map fun (x : Nat × Operand) => (x.1, a.eval x.2)))).run P w = _
            refine vN_run ?_
            have hps : (ps.map fun (x : Nat × Operand) => (x.1, a.eval x.2)) = #[] := by apply Array.ext'; rw [hparts]; rfl
            rw [hps]
            simp [Instr.buildSlice, run_underlying (slB_ok hT), sizeOf, typeInfo, hi, Instr.fill, newRow]
            congr 2
            apply Array.eq_empty_of_size_eq_zero
            simp
          · exact hc.alloc k4 ⟨hf, _, 0, rfl, .inr ⟨w.heap.size, #[], rfl, rfl, heap_alloc_new w _, Nat.le_refl _, by simp [maxLen], by simp, by simp [RepC, RepL]⟩⟩
        · have hd := Go.Great.fill_whole (s := s.size) h0 (css.map (mkV s)) ((Array.range (n * s.size)).map (z.cells[· % z.cells.size]!)) hlen (by simp [hcl])
          have hfill : Instr.fill (fun i => some (i * s.size, s.size)) ((Array.range (n * s.size)).map (z.cells[· % z.cells.size]!)) (ps.map fun (x : Nat × Operand) => (x.1, a.eval x.2)).toList = some css.flatten.toArray := by
            rw [hparts, hd, hflat]
          refine ⟨M, upd φ L (.slice (some ⟨w.heap.size, 0, none⟩) n n), upd ξ L (some w.heap.size), w.alloc (.cells css.flatten.toArray e), .slice (some ⟨w.heap.size, 0, none⟩) n n, .inl ?_, ?_, he.labs (fresh_env k4 _ _), ⟨Fz.le_refl _, fun l hl => upd_ne (by omega)⟩, (by rw [RelV, upd_same]; exact ⟨rfl, rfl⟩), fun g hg => (by rw [upd_same] at hg; cases hg; exact hc.below.size)⟩
          · show (vN (Instr.buildSlice T n (ps.map fun (x : Nat × Operand) => (x.1, a.eval x.2)))).run P w = _
            refine vN_run (run_buildSlice w T e n _ _ i z (slB_ok hT) hi hz (by rw [hsz]; omega) (by rw [hsz]; have := Nat.mul_pos hn h0; omega) (by rw [hsz]; exact hfill))
          · have hxl : xs.length = n := by rw [e3, e1, List.length_map, hcl]
            have hfl := RepL_len (fun c y hc => rep_len hf hc) e2
            refine hc.alloc k4 ⟨hf, _, n, by rw [hxl], .inr ⟨w.heap.size, css.flatten.toArray, rfl, rfl, heap_alloc_new w _, by omega, by simp [maxLen]; have := Nat.le_mul_of_pos_right n h0; omega, by simp [hfl, hxl], ?_⟩⟩
            rw [List.take_of_length_le (by simp [hfl])]
            exact rep_pers (s := .lst s) hp (by simpa [RepC] using e2)
      · cases hb
    · cases hb
  · cases hb

theorem does_lit {T : TypeId} {n L : Nat} {ps : Array (Nat × Operand)} {l : List AVal} {β : AVal} {H' : AStore} {ty et : TypeId} {dst pos after guard} (h : evL P ρ (ps.toList.map fun x => (et, x.2)) = some l) (hb : litA P n0 ρ H T n L (ps.toList.map (·.1)) l = some (β, H')) : Does P b ρ H ⟨dst, .buildSlice T n ps, ty, pos, after, guard⟩ β H' L := fun M φ ξ w a hc he => by
  obtain ⟨M', φ', ξ', w', v, h1, h2, h3, h4, h5, _⟩ := does_lit0 (ty := ty) (dst := dst) (pos := pos) (after := after) (guard := guard) h hb M φ ξ w a hc he
  exact ⟨M', φ', ξ', w', v, h1, h2, h3, h4, h5⟩

/-- A row that is written no more. -/
theorem Core.freeze {L : Nat} {e : TypeId} {s : Sh} {xs : List s.ty} (g1 : Core P b M φ ξ ((L, .row e s xs) :: H) w) (hp : s.pers = true) (hnew : ∀ g, ξ L = some g → b.w.heap.size ≤ g) : ∃ M2, M.le M2 ∧ Core P b M2 φ ξ H w ∧ RelV P M2 φ (.v (.sl s) xs) (φ L) := by
  have hm : (L, AItem.row e s xs) ∈ (L, AItem.row e s xs) :: H := List.mem_cons_self ..
  have hsub : H.Sublist ((L, AItem.row e s xs) :: H) := List.sublist_cons_self _ _
  have hneL : ∀ x ∈ H, x.1 ≠ L := by
    intro x hx e
    have hn := g1.nd
    rw [List.map_cons, List.nodup_cons] at hn
    exact hn.1 (e ▸ List.mem_map.2 ⟨_, hx, rfl⟩)
  obtain ⟨hf, A, cap, k1, k2⟩ := g1.items L _ hm
  have hfx : (Sh.sl s).fixed = true := by simp [Sh.fixed, hf, hp]
  rcases k2 with ⟨_, rfl, rfl, rfl⟩ | ⟨g, c, k3, rfl, k4, k5, k6, k7, k8⟩
  · exact ⟨M, Fz.le_refl _, g1.sub hsub, hfx, [φ L], by rw [k1]; rfl, none, 0, 0, [], by rw [k1]; rfl, rfl, ⟨Nat.le_refl _, by simp [maxLen]⟩, Cl.nil _ _, rfl⟩
  · have hft := g1.feet L _ g hm k3
    have hge := hnew g k3
    have hle : M.le (fun x => if x = g then some c else M x) := fun x d hx => by
      by_cases e : x = g
      · subst e; rw [hft.2] at hx; cases hx
      · simp [e, hx]
    refine ⟨fun x => if x = g then some c else M x, hle, ?_, hfx, [φ L], by rw [k1]; rfl, _, _, cap, _, by rw [k1], rfl, ⟨k5, k6⟩, ?_, rep_mono (s := .lst s) hle k8⟩
    · have s' := g1.sub hsub
      refine ⟨Fz.le_trans g1.le hle, fun x hx => ?_, ⟨fun x d hx => ?_, g1.over.gl.mono hle⟩, g1.below, fun K it hi => held_kept hle (s'.items K it hi) fun _ _ => rfl, fun K it x hi hx => ⟨(s'.feet K it x hi hx).1, ?_⟩, s'.sep, s'.nd, g1.keep⟩
      · have : ¬ x = g := by omega
        simp [this, g1.same x hx]
      · by_cases e : x = g
        · subst e
          simp at hx
          subst hx
          exact ⟨_, _, k4⟩
        · simp [e] at hx
          exact g1.over x d hx
      · have : ¬ x = g := fun e => by
          subst e
          exact hneL _ hi (g1.sep K L it _ x (hsub.subset hi) hm hx k3)
        simp [this, (s'.feet K it x hi hx).2]
    · intro q hq
      refine ⟨g, 0, c, rfl, by simp, ?_⟩
      rw [Nat.zero_add, List.getElem?_take_of_lt (by rw [List.length_take] at hq; omega)]
      simp
/-- A slice literal that is written no more. -/
def litF (P : Program) (n0 : Nat) (ρ : AEnv) (H : AStore) (T : TypeId) (n : Nat) (L : Nat) (is : List Nat) (l : List AVal) : Option AVal := match litA P n0 ρ H T n L is l with
  | some (_, (_, .row _ s xs) :: _) => if s.pers then some (.v (.sl s) xs) else none
  | _ => none
theorem does_litF {T : TypeId} {n L : Nat} {ps : Array (Nat × Operand)} {l : List AVal} {β : AVal} {ty et : TypeId} {dst pos after guard} (h : evL P ρ (ps.toList.map fun x => (et, x.2)) = some l) (hb : litF P n0 ρ H T n L (ps.toList.map (·.1)) l = some β) : Does P b ρ H ⟨dst, .buildSlice T n ps, ty, pos, after, guard⟩ β H L := fun M φ ξ w a hc he => by
  unfold litF at hb
  split at hb
  · rename_i β0 L' e s xs H0 hl
    split at hb
    · rename_i hp
      simp only [Option.some.injEq] at hb
      subst hb
      have hl' := hl
      unfold litA at hl'
      split at hl'
      · split at hl'
        · split at hl'
          · simp only [Option.some.injEq, Prod.mk.injEq, List.cons.injEq] at hl'
            obtain ⟨e1, ⟨e2, e3⟩, e4⟩ := hl'
            subst e1 e2 e4
            obtain ⟨M', φ', ξ', w', v, h1, h2, h3, h4, h5, h6⟩ := does_lit0 (b := b) (ty := ty) (dst := dst) (pos := pos) (after := after) (guard := guard) h hl M φ ξ w a hc he
            obtain ⟨M2, k1, k2, k3⟩ := h2.freeze hp h6
            refine ⟨M2, φ', ξ', w', v, h1, k2, h3.mono k1, ⟨Fz.le_trans h4.1 k1, h4.2⟩, ?_⟩
            rw [h5.1]
            exact k3
          · cases hl'
        · cases hl'
      · cases hl'
    · cases hb
  · cases hb

/-! ### append -/
/-- What is appended: a frozen slice, a row, nothing. -/
def newsA (H : AStore) (s : Sh) : AVal → Option (List s.ty)
  | .v (.sl t) ys => if h : t = s then some (h ▸ ys) else none
  | .v (.nl _) _ => some []
  | .row L => match look H L with
    | some (.row _ t ys) => if h : t = s then some (h ▸ ys) else none
    | _ => none
  | _ => none
/-- The cells behind it. -/
theorem newsA_ok (hc : Core P b M φ ξ H w) {s : Sh} {α : AVal} {ys : List s.ty} {u : Value} (hu : RelV P M φ α u) (h : newsA H s α = some ys) : ∃ A c news, u = .slice A ys.length c ∧ RepL (RepC P φ s M) news ys ∧ (∀ q, q < news.length → ∃ a, A = some a ∧ a.spot = none) ∧ ∀ a, A = some a → ∀ j v, news[j]? = some v → w.cell? (a.add j) = some v := by
  unfold newsA at h
  split at h
  · split at h
    · rename_i t ys' e
      subst e
      simp only [Option.some.injEq] at h
      subst h
      obtain ⟨_, cs, rfl, A, n, cap, vs, rfl, rfl, _, h3, h4⟩ := hu
      refine ⟨A, cap, vs, rfl, h4, fun q hq => ?_, fun a ha j v hj => ?_⟩
      · obtain ⟨g, o, c, e, _⟩ := h3 q hq
        exact ⟨_, e, rfl⟩
      · obtain ⟨g, o, c, e, e2, e3⟩ := h3 j (List.getElem?_eq_some_iff.1 hj).1
        rw [ha] at e
        obtain rfl := Option.some.inj e
        obtain ⟨t, fr, e4⟩ := hc.over _ _ e2
        rw [addz]
        simp [World.cell?, e4, e3, hj]
    · cases h
  · simp only [Option.some.injEq] at h
    subst h
    obtain ⟨_, cs, rfl, h2⟩ := hu
    simp only [RepC] at h2
    subst h2
    exact ⟨none, 0, [], rfl, rfl, fun q hq => (by cases hq), fun a ha => (by cases ha)⟩
  · split at h
    · rename_i L _ e t ys' hl
      split at h
      · rename_i e
        subst e
        simp only [Option.some.injEq] at h
        subst h
        obtain ⟨rfl, _⟩ := hu
        obtain ⟨hf, A, cap, h1, h2⟩ := hc.items L _ (look_mem hl)
        rcases h2 with ⟨_, rfl, _⟩ | ⟨g, c, _, rfl, h4, h5, h6, h7, h8⟩
        · exact ⟨A, cap, [], h1, rfl, fun q hq => (by cases hq), fun a ha j v hj => (by simp at hj)⟩
        · refine ⟨_, cap, _, h1, h8, fun q hq => ⟨_, rfl, rfl⟩, fun a ha j v hj => ?_⟩
          obtain rfl := Option.some.inj ha
          rw [addz, Nat.zero_add]
          have hj' := (List.getElem?_eq_some_iff.1 hj).1
          rw [List.getElem?_take_of_lt (by rw [List.length_take] at hj'; omega)] at hj
          simp [World.cell?, h4]
          simpa using hj
      · cases h
    · cases h
  · cases h

theorem run_app0 {t ty e : TypeId} {A A' : Option Addr} {n c m : Nat} (ht : P.underlying t = some (.slice e)) (hsz : ∃ k, szB P e k = true) (hn : n ≤ c) (w : World) : (Builtin.append_ #[t, t] ty #[.slice A n c, .slice A' 0 m]).run P w = .ok (.slice A n c) w := by
  obtain ⟨k, hk⟩ := hsz
  have hf : (Builtin.firstCells k 0 (.slice A' 0 m)).run P w = .ok #[] w := by
    cases A' with
    | none => simp [Builtin.firstCells]
    | some a => simp [Builtin.firstCells, loadCells, loadCellsFrom]
  cases A with
  | none => simp [Builtin.append_, run_underlying ht, szB_ok hk, Builtin.lenOf, hn, hf]
  | some a => simp [Builtin.append_, run_underlying ht, szB_ok hk, Builtin.lenOf, hn, hf, storeCells]

/-- append: onto a row, or nil; the row has a new label. -/
def appA (P : Program) (n0 : Nat) (ρ : AEnv) (H : AStore) (T : TypeId) (N : Nat) : AVal → AVal → Option (AVal × AStore × List Prop)
  | .row L, γ => match look H L, slB P T with
    | some (.row e s xs), some e' => if Nat.beq e e' && rowB P e s && freshB n0 N ρ H then match newsA H s γ with
      | some ys => some (.row N, (N, .row e s (xs ++ ys)) :: remL H L, [(xs.length + ys.length) * bytesB P e ≤ 140737488355328, xs.length + ys.length ≤ maxLen])
      | none => none
      else none
    | _, _ => none
  | .v (.nl _) _, γ => match slB P T with
    | some e => if rowB P e (shOf P false 20 e) && freshB n0 N ρ H then match newsA H (shOf P false 20 e) γ with
      | some ys => some (.row N, (N, .row e (shOf P false 20 e) ys) :: H, [ys.length * bytesB P e ≤ 140737488355328, ys.length ≤ maxLen])
      | none => none
      else none
    | none => none
  | _, _ => none

theorem repL_app {α : Type} {R : List Value → α → Prop} : ∀ {vs us : List Value} {xs ys : List α}, RepL R vs xs → RepL R us ys → RepL R (vs ++ us) (xs ++ ys)
  | vs, us, [], ys, h, h2 => by cases h; exact h2
  | vs, us, x :: xs, ys, ⟨c, r, e, h1, h2⟩, h3 => by subst e; exact ⟨c, r ++ us, by simp, h1, repL_app h2 h3⟩

/-- The row that an append gives: told over any old handle. -/
theorem run_app {t ty e : TypeId} {s : Sh} {A : Option Addr} {o : Option Nat} {n cap : Nat} {xs ys : List s.ty} {olds : List Value} (hT : P.underlying t = some (.slice e)) (hb : rowB P e s = true) (hc : Core P b M φ ξ H w)
    (hx : RepL (RepC P φ s M) olds xs) (hxl : xs.length = n) (hcap : n ≤ cap) (hcm : cap ≤ maxLen)
    (hold : (cap = 0 ∧ o = none) ∨ ∃ g c, o = some g ∧ A = some ⟨g, 0, none⟩ ∧ w.heap[g]? = some (.cells c e (0, 0)) ∧ c.size = cap * s.size ∧ c.toList.take (n * s.size) = olds)
    {B : Option Addr} {m : Nat} {news : List Value} (hy : RepL (RepC P φ s M) news ys) (hB : ∀ q, q < news.length → ∃ a, B = some a ∧ a.spot = none) (hnews : ∀ a, B = some a → ∀ j v, news[j]? = some v → w.cell? (a.add j) = some v)
    (h1 : (n + ys.length) * bytesB P e ≤ 140737488355328) (h2 : n + ys.length ≤ maxLen) :
    ∃ A' cap' w', (Builtin.append_ #[t, t] ty #[.slice A n cap, .slice B ys.length m]).run P w = .ok (.slice A' (n + ys.length) cap') w' ∧ w'.os = w.os ∧ w'.tape = w.tape ∧ w'.output = w.output ∧ w.heap.size ≤ w'.heap.size ∧
      (∀ k, k < w.heap.size → o ≠ some k → w'.heap[k]? = w.heap[k]?) ∧
      ((ys = [] ∧ A' = A ∧ cap' = cap ∧ w' = w) ∨ ∃ g c, A' = some ⟨g, 0, none⟩ ∧ (g = w.heap.size ∨ o = some g) ∧ w'.heap[g]? = some (.cells c e (0, 0)) ∧ n + ys.length ≤ cap' ∧ cap' ≤ maxLen ∧ c.size = cap' * s.size ∧ RepL (RepC P φ s M) (c.toList.take ((n + ys.length) * s.size)) (xs ++ ys)) := by
  obtain ⟨i, z, hi, hz, hsz, hzs, h0, hf, hv, hp⟩ := rowB_ok hb
  have hby : bytesB P e = i.bytes := by simp [bytesB, hi]
  rw [hby] at h1
  have hol := RepL_len (fun c y hc => rep_len hf hc) hx
  have hnl := RepL_len (fun c y hc => rep_len hf hc) hy
  have hrep := repL_app hx hy
  rcases Nat.eq_zero_or_pos ys.length with hy0 | hy0
  · have hys : ys = [] := List.eq_nil_of_length_eq_zero hy0
    subst hys
    exact ⟨A, cap, w, run_app0 hT ⟨s.size, by simp [szB, hi, hsz]⟩ hcap w, rfl, rfl, rfl, Nat.le_refl _, fun _ _ _ => rfl, .inl ⟨rfl, rfl, rfl, rfl⟩⟩
  · obtain ⟨a, rfl, hsp⟩ := hB 0 (by rw [hnl]; exact Nat.mul_pos hy0 h0)
    have hnews' := hnews a rfl
    have h63 : n + ys.length ≤ 9223372036854775807 := by simp only [maxLen] at h2; omega
    have fin : ∀ old, (w.drew.alloc (.cells (olds.toArray ++ news.toArray ++ Builtin.zeroCells z.cells (grownCap w (n + ys.length) old e - (n + ys.length))) e)).heap[w.heap.size]? = some (.cells (olds.toArray ++ news.toArray ++ Builtin.zeroCells z.cells (grownCap w (n + ys.length) old e - (n + ys.length))) e (0, 0)) := fun old => heap_alloc_new w.drew _
    have big : ∀ old, (olds.toArray ++ news.toArray ++ Builtin.zeroCells z.cells (grownCap w (n + ys.length) old e - (n + ys.length))).size = grownCap w (n + ys.length) old e * s.size ∧
        RepL (RepC P φ s M) ((olds.toArray ++ news.toArray ++ Builtin.zeroCells z.cells (grownCap w (n + ys.length) old e - (n + ys.length))).toList.take ((n + ys.length) * s.size)) (xs ++ ys) := by
      intro old
      have hge := grownCap_ge w (n + ys.length) old e
      constructor
      · simp only [Array.size_append, List.size_toArray, size_zeroCells, hzs, hol, hnl, hxl, ← Nat.add_mul]
        congr 1
        omega
      · have : (olds.toArray ++ news.toArray ++ Builtin.zeroCells z.cells (grownCap w (n + ys.length) old e - (n + ys.length))).toList.take ((n + ys.length) * s.size) = olds ++ news := by
          simp only [Array.toList_append]
          rw [List.take_append_of_le_length (by simp [hol, hnl, hxl, Nat.add_mul]), List.take_of_length_le (by simp [hol, hnl, hxl, Nat.add_mul])]
        rw [this]
        exact hrep
    have grow : ∀ old, ∃ cap' w', w' = w.drew.alloc (.cells (olds.toArray ++ news.toArray ++ Builtin.zeroCells z.cells (grownCap w (n + ys.length) old e - (n + ys.length))) e) ∧ cap' = grownCap w (n + ys.length) old e ∧ w'.os = w.os ∧ w'.tape = w.tape ∧ w'.output = w.output ∧ w.heap.size ≤ w'.heap.size ∧ (∀ k, k < w.heap.size → w'.heap[k]? = w.heap[k]?) ∧ n + ys.length ≤ cap' ∧ cap' ≤ maxLen :=
      fun old => ⟨_, _, rfl, rfl, rfl, rfl, rfl, by simp, fun k hk => heap_alloc_old w.drew _ hk, grownCap_ge _ _ _ _, grownCap_le_maxLen w (n + ys.length) old e h2⟩
    rcases hold with ⟨hc0, rfl⟩ | ⟨g, c, rfl, rfl, hg, hcs, htk⟩
    · have hn0 : n = 0 := by omega
      have hx0 : xs = [] := List.eq_nil_of_length_eq_zero (by omega)
      have ho0 : olds = [] := List.eq_nil_of_length_eq_zero (by rw [hol, hx0]; simp)
      subst hc0
      cases A with
      | none =>
        have hr := run_append_nil (P := P) w t ty e i z hT hi hz a ys.length m news (by rw [hnl, hsz]) hnews' hy0 (by omega) (by rw [hn0, Nat.zero_add] at h1; omega)
        obtain ⟨cap', w', rfl, rfl, g1, g2, g3, g4, g5, g6, g7⟩ := grow 0
        refine ⟨_, _, _, ?_, g1, g2, g3, g4, fun k hk _ => g5 k hk, .inr ⟨w.heap.size, _, rfl, .inl rfl, fin 0, g6, g7, (big 0).1, (big 0).2⟩⟩
        subst hn0
        rw [hr]
        subst ho0
        simp
      | some b0 =>
        have hr := run_append_grow (P := P) w t ty e i z hT hi hz b0 n 0 olds (by rw [hol, hsz, hxl]) (by subst ho0; intro j v hj; simp at hj) a ys.length m news (by rw [hnl, hsz]) hnews' (by omega) (by omega) (growslice_fits (by omega) h1)
        obtain ⟨cap', w', rfl, rfl, g1, g2, g3, g4, g5, g6, g7⟩ := grow 0
        exact ⟨_, _, _, hr, g1, g2, g3, g4, fun k hk _ => g5 k hk, .inr ⟨w.heap.size, _, rfl, .inl rfl, fin 0, g6, g7, (big 0).1, (big 0).2⟩⟩
    · by_cases hroom : n + ys.length ≤ cap
      · have hfit : n * i.size + news.length ≤ c.size := by rw [hnl, hcs, hsz, ← Nat.add_mul]; exact Nat.mul_le_mul_right _ hroom
        have hr := run_append_room (P := P) w t ty e i hT hi g n cap c hg a ys.length m news (by rw [hnl, hsz]) hnews' (RepL_one (fun c y hc => rep_one hc) hy) hroom hfit
        refine ⟨_, _, _, hr, rfl, rfl, rfl, by simp, fun k _ hk => setRow_other w g k _ (fun e => hk (by simp [e])), .inr ⟨g, _, rfl, .inr rfl, setRow_heap w g c _ e _ hg, hroom, hcm, ?_, ?_⟩⟩
        · simp only [List.size_toArray, List.length_append, List.length_take, List.length_drop, Array.length_toList]
          omega
        · rw [hsz, htk]
          have : (olds ++ news ++ c.toList.drop (n * s.size + news.length)).take ((n + ys.length) * s.size) = olds ++ news := by
            rw [List.take_append_of_le_length (by simp [hol, hnl, hxl, Nat.add_mul]), List.take_of_length_le (by simp [hol, hnl, hxl, Nat.add_mul])]
          simp only
          rw [this]
          exact hrep
      · have holds : ∀ j u, olds[j]? = some u → w.cell? ((⟨g, 0, none⟩ : Addr).add j) = some u := by
          intro j u hj
          rw [addz, Nat.zero_add]
          have hj' := (List.getElem?_eq_some_iff.1 hj).1
          rw [← htk, List.getElem?_take_of_lt (by rw [← htk, List.length_take] at hj'; omega)] at hj
          simp [World.cell?, hg]
          simpa using hj
        have hr := run_append_grow (P := P) w t ty e i z hT hi hz ⟨g, 0, none⟩ n cap olds (by rw [hol, hsz, hxl]) holds a ys.length m news (by rw [hnl, hsz]) hnews' (by omega) (by omega) (growslice_fits (by omega) h1)
        obtain ⟨cap', w', rfl, rfl, g1, g2, g3, g4, g5, g6, g7⟩ := grow cap
        exact ⟨_, _, _, hr, g1, g2, g3, g4, fun k hk _ => g5 k hk, .inr ⟨w.heap.size, _, rfl, .inl rfl, fin cap, g6, g7, (big cap).1, (big cap).2⟩⟩

theorem does_app {T ty : TypeId} {x y : Operand} {α γ β : AVal} {N : Nat} {H' : AStore} {C : List Prop} {dst pos after guard} (hx : evA P ρ T x = some α) (hy : evA P ρ T y = some γ) (hb : appA P n0 ρ H T N α γ = some (β, H', C)) (hC : AllP C) :
    Does P b ρ H ⟨dst, .call ⟨.builtin .append, #[x, y], #[T, T]⟩, ty, pos, after, guard⟩ β H' N := by
  intro M φ ξ w a hc he
  have hu := evA_ok he hx
  have hv := evA_ok he hy
  have exec : ∀ {r : Value} {w' : World}, (Builtin.append_ #[T, T] ty #[a.eval x, a.eval y]).run P w = .ok r w' → (execOp a.eval ⟨dst, .call ⟨.builtin .append, #[x, y], #[T, T]⟩, ty, pos, after, guard⟩).run P w = .ok (.value r) w' := by
    intro r w' h
    simp [execOp, resolve, invoke, builtin, h]
  unfold appA at hb
  split at hb
  · rename_i L
    split at hb
    · rename_i e s xs e' hl hT
      split at hb
      · rename_i hh
        simp only [Bool.and_eq_true] at hh
        obtain ⟨⟨k1, k2⟩, k3⟩ := hh
        have k1 := Nat.eq_of_beq_eq_true k1
        subst k1
        split at hb
        · rename_i ys hny
          simp only [Option.some.injEq, Prod.mk.injEq] at hb
          obtain ⟨rfl, rfl, rfl⟩ := hb
          obtain ⟨c1, c2, _⟩ := hC
          obtain ⟨B, m, news, e1, e2, e3, e4⟩ := newsA_ok hc hv hny
          obtain ⟨e5, _⟩ := hu
          obtain ⟨hf, A, cap, h1, h2⟩ := hc.items L _ (look_mem hl)
          obtain ⟨i, z, _, _, _, _, h0, _, _, hp⟩ := rowB_ok k2
          obtain ⟨H1, H2, hH, _, hrem⟩ := look_split hl
          rw [e5, h1, e1] at exec
          have olds : ∃ olds, RepL (RepC P φ s M) olds xs ∧ xs.length ≤ cap ∧ cap ≤ maxLen ∧ ((cap = 0 ∧ ξ L = none) ∨ ∃ g c, ξ L = some g ∧ A = some ⟨g, 0, none⟩ ∧ w.heap[g]? = some (.cells c e (0, 0)) ∧ c.size = cap * s.size ∧ c.toList.take (xs.length * s.size) = olds) := by
            rcases h2 with ⟨h2, rfl, rfl, rfl⟩ | ⟨g, c, h2, rfl, h4, h5, h6, h7, h8⟩
            · exact ⟨[], rfl, Nat.le_refl _, by simp [maxLen], .inl ⟨rfl, h2⟩⟩
            · exact ⟨_, h8, h5, h6, .inr ⟨g, c, h2, rfl, h4, h7, rfl⟩⟩
          obtain ⟨olds, o1, o2, o3, o4⟩ := olds
          obtain ⟨A', cap', w', r1, r2, r3, r4, r5, r6, r7⟩ := run_app (ty := ty) (slB_ok hT) k2 hc o1 rfl o2 o3 o4 (m := m) e2 e3 e4 c1 c2
          rw [hrem]
          subst hH
          rcases r7 with ⟨rfl, rfl, rfl, rfl⟩ | ⟨g, c, rfl, q2, q3, q4, q5, q6, q7⟩
          · refine ⟨M, upd φ N _, upd ξ N (ξ L), w', _, .inl (exec r1), ?_, he.labs (fresh_env k3 _ _), ⟨Fz.le_refl _, fun l hl => upd_ne (by omega)⟩, by rw [RelV, upd_same]; exact ⟨rfl, rfl⟩⟩
            refine hc.repl k3 r2 r3 r4 r5 r6 ⟨hf, A', cap', by simp, ?_⟩ (fun g hg => .inr hg)
            rcases h2 with ⟨h2, rfl, rfl, rfl⟩ | ⟨g, c, h2, rfl, h4, h5, h6, h7, h8⟩
            · exact .inl ⟨h2, rfl, rfl, rfl⟩
            · refine .inr ⟨g, c, h2, rfl, h4, by simpa using h5, h6, h7, ?_⟩
              rw [List.append_nil]
              exact rep_pers (s := .lst s) hp h8
          · refine ⟨M, upd φ N _, upd ξ N (some g), w', _, .inl (exec r1), ?_, he.labs (fresh_env k3 _ _), ⟨Fz.le_refl _, fun l hl => upd_ne (by omega)⟩, by rw [RelV, upd_same]; exact ⟨rfl, rfl⟩⟩
            refine hc.repl k3 r2 r3 r4 r5 r6 ⟨hf, _, cap', by simp, .inr ⟨g, c, rfl, rfl, q3, by simpa using q4, q5, q6, ?_⟩⟩ (fun g' hg => ?_)
            · rw [List.length_append]
              exact rep_pers (s := .lst s) hp q7
            · obtain rfl := Option.some.inj hg
              rcases q2 with h | h
              · exact .inl (Nat.le_of_eq h.symm)
              · exact .inr h
        · cases hb
      · cases hb
    · cases hb
  · split at hb
    · rename_i e hT
      split at hb
      · rename_i hh
        simp only [Bool.and_eq_true] at hh
        obtain ⟨k2, k3⟩ := hh
        split at hb
        · rename_i ys hny
          simp only [Option.some.injEq, Prod.mk.injEq] at hb
          obtain ⟨rfl, rfl, rfl⟩ := hb
          obtain ⟨c1, c2, _⟩ := hC
          obtain ⟨B, m, news, e1, e2, e3, e4⟩ := newsA_ok hc hv hny
          obtain ⟨_, cs, e5, h2⟩ := hu
          simp only [RepC] at h2
          subst h2
          obtain ⟨i, z, _, _, _, _, h0, hf, _, hp⟩ := rowB_ok k2
          have e6 : a.eval x = .slice none 0 0 := e5
          rw [e6, e1] at exec
          obtain ⟨A', cap', w', r1, r2, r3, r4, r5, r6, r7⟩ := run_app (ty := ty) (A := none) (o := none) (n := 0) (cap := 0) (xs := []) (olds := []) (slB_ok hT) k2 hc rfl rfl (Nat.le_refl _) (by simp [maxLen]) (.inl ⟨rfl, rfl⟩) (m := m) e2 e3 e4 (by simpa using c1) (by simpa using c2)
          simp only [Nat.zero_add, List.nil_append] at r1 r7
          rcases r7 with ⟨rfl, rfl, rfl, rfl⟩ | ⟨g, c, rfl, q2, q3, q4, q5, q6, q7⟩
          · refine ⟨M, upd φ N _, upd ξ N none, w', _, .inl (exec r1), ?_, he.labs (fresh_env k3 _ _), ⟨Fz.le_refl _, fun l hl => upd_ne (by omega)⟩, by rw [RelV, upd_same]; exact ⟨rfl, rfl⟩⟩
            exact hc.grow k3 r2 r3 r4 r5 (fun k hk => r6 k hk (by simp)) ⟨hf, none, 0, rfl, .inl ⟨rfl, rfl, rfl, rfl⟩⟩ (fun g hg => by cases hg)
          · refine ⟨M, upd φ N _, upd ξ N (some g), w', _, .inl (exec r1), ?_, he.labs (fresh_env k3 _ _), ⟨Fz.le_refl _, fun l hl => upd_ne (by omega)⟩, by rw [RelV, upd_same]; exact ⟨rfl, rfl⟩⟩
            refine hc.grow k3 r2 r3 r4 r5 (fun k hk => r6 k hk (by simp)) ⟨hf, _, cap', rfl, .inr ⟨g, c, rfl, rfl, q3, q4, q5, q6, rep_pers (s := .lst _) hp q7⟩⟩ (fun g' hg => ?_)
            obtain rfl := Option.some.inj hg
            rcases q2 with h | h
            · exact Nat.le_of_eq h.symm
            · cases h
        · cases hb
      · cases hb
    · cases hb
  · cases hb
end
end Go.Proofs.YtlhbekiplnmolaaDoor
