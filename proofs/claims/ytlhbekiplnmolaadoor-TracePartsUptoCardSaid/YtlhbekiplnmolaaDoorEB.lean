/- The machine's side, told once: variables and rows that are made and written. -/
import Derived.Test.YtlhbekiplnmolaaDoorEA
import Derived.Laws.AppendOwn
set_option linter.unusedVariables false
set_option linter.unusedSimpArgs false
namespace Go.Proofs.YtlhbekiplnmolaaDoor
open Go.RowKit

def setL : AStore → Nat → AItem → AStore
  | [], _, _ => []
  | (l, i) :: H, L, it => if Nat.beq l L then (l, it) :: H else (l, i) :: setL H L it
def remL : AStore → Nat → AStore
  | [], _ => []
  | (l, i) :: H, L => if Nat.beq l L then H else (l, i) :: remL H L

theorem look_split : ∀ {H : AStore} {L : Nat} {it : AItem}, look H L = some it → ∃ H1 H2, H = H1 ++ (L, it) :: H2 ∧ (∀ it', setL H L it' = H1 ++ (L, it') :: H2) ∧ remL H L = H1 ++ H2
  | (l, i) :: H, L, it, h => by
    simp only [look] at h
    split at h
    · rename_i e
      have e' := Nat.eq_of_beq_eq_true e
      simp only [Option.some.injEq] at h
      subst e' h
      exact ⟨[], H, rfl, fun it' => by simp [setL], by simp [remL]⟩
    · rename_i e
      obtain ⟨H1, H2, rfl, h1, h2⟩ := look_split h
      exact ⟨(l, i) :: H1, H2, rfl, fun it' => by simp only [setL, if_neg e, h1]; rfl, by simp only [remL, if_neg e, h2]; rfl⟩

/-- One shape's content as another's: nil slices as empty ones. -/
def coeS : (s t : Sh) → s.ty → Option t.ty
  | .int k, .int k', x => if k = k' then some x else none
  | .bool, .bool, x => some x
  | .str, .str, x => some x
  | .unit, .unit, x => some x
  | .prod a b, .prod c d, x => match coeS a c x.1, coeS b d x.2 with
    | some y, some z => some (y, z)
    | _, _ => none
  | .st s, .st t, x => coeS s t x
  | .arr n s, .arr m t, x => if n = m then (if h : s = t then some (h ▸ x) else none) else none
  | .sl s, .sl t, x => if h : s = t then some (h ▸ x) else none
  | .nl _, .sl _, _ => some []
  | .nl _, .nl _, _ => some ()
  | .any, .any, _ => some ()
  | .np, .any, _ => some ()
  | .np, .np, _ => some ()
  | .oref, .oref, x => some x
  | .ref, .ref, x => some x
  | _, _, _ => none

section
variable {P : Program} {n0 : Nat} {b : Base n0} {M : Fz} {φ : Nat → Value} {ξ : Nat → Option Nat} {H : AStore} {w : World} {ρ : AEnv}

theorem coeS_ok : ∀ {s t : Sh} {x : s.ty} {y : t.ty} {cs : List Value}, coeS s t x = some y → RepC P φ s M cs x → RepC P φ t M cs y := by
  intro s
  induction s with
  | int k =>
    intro t x y cs h hr
    cases t <;> simp only [coeS, reduceCtorEq] at h
    split at h
    · rename_i e
      subst e
      simp only [Option.some.injEq] at h
      subst h
      exact hr
    · cases h
  | bool => intro t x y cs h hr; cases t <;> simp only [coeS, reduceCtorEq, Option.some.injEq] at h; subst h; exact hr
  | str => intro t x y cs h hr; cases t <;> simp only [coeS, reduceCtorEq, Option.some.injEq] at h; subst h; exact hr
  | unit => intro t x y cs h hr; cases t <;> simp only [coeS, reduceCtorEq, Option.some.injEq] at h; exact hr
  | prod a b iha ihb =>
    intro t x y cs h hr
    cases t <;> simp only [coeS, reduceCtorEq] at h
    split at h
    · rename_i y1 y2 h1 h2
      simp only [Option.some.injEq] at h
      subst h
      obtain ⟨c1, c2, rfl, g1, g2⟩ := hr
      exact ⟨c1, c2, rfl, iha h1 g1, ihb h2 g2⟩
    · cases h
  | st s ih =>
    intro t x y cs h hr
    cases t <;> simp only [coeS, reduceCtorEq] at h
    have := ih h hr
    exact this
  | arr n s ih =>
    intro t x y cs h hr
    cases t <;> simp only [coeS, reduceCtorEq] at h
    split at h
    · rename_i e
      subst e
      split at h
      · rename_i e
        subst e
        simp only [Option.some.injEq] at h
        subst h
        exact hr
      · cases h
    · cases h
  | sl s ih =>
    intro t x y cs h hr
    cases t <;> simp only [coeS, reduceCtorEq] at h
    split at h
    · rename_i e
      subst e
      simp only [Option.some.injEq] at h
      subst h
      exact hr
    · cases h
  | nl s ih =>
    intro t x y cs h hr
    simp only [RepC] at hr
    subst hr
    cases t <;> simp only [coeS, reduceCtorEq, Option.some.injEq] at h
    · subst h
      exact ⟨none, 0, 0, [], rfl, rfl, ⟨Nat.le_refl _, by simp [maxLen]⟩, Cl.nil _ _, rfl⟩
    · rfl
  | any => intro t x y cs h hr; cases t <;> simp only [coeS, reduceCtorEq, Option.some.injEq] at h; exact hr
  | np =>
    intro t x y cs h hr
    cases t <;> simp only [coeS, reduceCtorEq, Option.some.injEq] at h
    · simp only [RepC] at hr; subst hr; exact ⟨_, rfl, rfl⟩
    · exact hr
  | oref => intro t x y cs h hr; cases t <;> simp only [coeS, reduceCtorEq, Option.some.injEq] at h; subst h; exact hr
  | ref => intro t x y cs h hr; cases t <;> simp only [coeS, reduceCtorEq, Option.some.injEq] at h; subst h; exact hr
  | _ => intro t x y cs h; cases t <;> simp [coeS] at h

/-- One item in another one's place, under a new label. -/
theorem Core.repl {H1 H2 : AStore} {L N : Nat} {it it' : AItem} (s : Core P b M φ ξ (H1 ++ (L, it) :: H2) w) (hN : freshB n0 N ρ (H1 ++ (L, it) :: H2) = true) {w' : World} {u : Value} {o : Option Nat}
    (hos : w'.os = w.os) (htp : w'.tape = w.tape) (hou : w'.output = w.output) (hsz : w.heap.size ≤ w'.heap.size) (hk : ∀ k, k < w.heap.size → ξ L ≠ some k → w'.heap[k]? = w.heap[k]?)
    (hit : Held P M (upd φ N u) w' u o it') (ho : ∀ g, o = some g → w.heap.size ≤ g ∨ ξ L = some g) : Core P b M (upd φ N u) (upd ξ N o) ((N, it') :: (H1 ++ H2)) w' := by
  have hm : (L, it) ∈ H1 ++ (L, it) :: H2 := by simp
  have hsub : ∀ x, x ∈ H1 ++ H2 → x ∈ H1 ++ (L, it) :: H2 := fun x hx => by
    rcases List.mem_append.1 hx with h | h
    · exact List.mem_append_left _ h
    · exact List.mem_append_right _ (List.mem_cons_of_mem _ h)
  have hneL : ∀ x ∈ H1 ++ H2, x.1 ≠ L := by
    intro x hx e
    have hn := s.nd
    rw [List.map_append, List.map_cons, List.nodup_append] at hn
    obtain ⟨h1, h2, h3⟩ := hn
    rw [List.nodup_cons] at h2
    rcases List.mem_append.1 hx with h | h
    · exact h3 x.1 (List.mem_map.2 ⟨_, h, rfl⟩) L (List.mem_cons_self ..) e
    · exact h2.1 (e ▸ List.mem_map.2 ⟨_, h, rfl⟩)
  have hne := fresh_store hN
  have lt : ∀ g c, M g = some c → g < w.heap.size := fun g c h => by
    obtain ⟨t, fr, e⟩ := s.over g c h
    exact (Array.getElem?_eq_some_iff.1 e).1
  have foot : ∀ l i, (l, i) ∈ H1 ++ (L, it) :: H2 → ∀ g, ξ l = some g → g < w.heap.size := fun l i h g hg => held_lt (s.items l i h) g hg
  have apart : ∀ l i, (l, i) ∈ H1 ++ H2 → ∀ g, ξ l = some g → ξ L ≠ some g := fun l i h g hg e => hneL _ h (s.sep l L i it g (hsub _ h) hm hg e)
  refine ⟨s.le, s.same, s.over' fun g c h => hk g (lt g c h) (fun e => by have := (s.feet L it g hm e).2; rw [h] at this; cases this), s.below.trans ⟨hos, htp, hou, hsz, fun k hkk he => ?_⟩, ?_, ?_, ?_, ?_, ?_⟩
  · refine hk k (Nat.lt_of_lt_of_le hkk s.below.size) fun e => ?_
    rcases (s.feet L it k hm e).1 with h | h
    · omega
    · exact he h
  · intro l i hi
    rcases List.mem_cons.1 hi with e | hj
    · simp only [Prod.mk.injEq] at e
      obtain ⟨rfl, rfl⟩ := e
      rw [upd_same, upd_same]
      exact hit
    · have h1 := mem_labs (hsub _ hj)
      rw [upd_ne (hne l h1.1), upd_ne (hne l h1.1)]
      exact held_labs (fun x hx => upd_ne (hne x (h1.2 x hx))) (held_kept (Fz.le_refl _) (s.items l i (hsub _ hj)) fun g hg => hk g (foot l i (hsub _ hj) g hg) (apart l i hj g hg))
  · intro l i g hi hg
    rcases List.mem_cons.1 hi with e | hj
    · simp only [Prod.mk.injEq] at e
      obtain ⟨rfl, rfl⟩ := e
      rw [upd_same] at hg
      rcases ho g hg with h | h
      · refine ⟨.inl (Nat.le_trans s.below.size h), ?_⟩
        cases hM : M g with
        | none => rfl
        | some c => have := lt g c hM; omega
      · exact s.feet L it g hm h
    · rw [upd_ne (hne l (mem_labs (hsub _ hj)).1)] at hg
      exact s.feet l i g (hsub _ hj) hg
  · intro l l' i i' g hi hi' hg hg'
    have new : ∀ l i, (l, i) ∈ H1 ++ H2 → o = some g → ξ l = some g → False := by
      intro l i hj h1 h2
      rcases ho g h1 with h | h
      · have := foot l i (hsub _ hj) g h2; omega
      · exact apart l i hj g h2 h
    rcases List.mem_cons.1 hi with e | hj <;> rcases List.mem_cons.1 hi' with e' | hj'
    · simp only [Prod.mk.injEq] at e e'
      exact e.1.trans e'.1.symm
    · simp only [Prod.mk.injEq] at e
      rw [e.1, upd_same] at hg
      rw [upd_ne (hne l' (mem_labs (hsub _ hj')).1)] at hg'
      exact (new l' i' hj' hg hg').elim
    · simp only [Prod.mk.injEq] at e'
      rw [e'.1, upd_same] at hg'
      rw [upd_ne (hne l (mem_labs (hsub _ hj)).1)] at hg
      exact (new l i hj hg' hg).elim
    · rw [upd_ne (hne l (mem_labs (hsub _ hj)).1)] at hg
      rw [upd_ne (hne l' (mem_labs (hsub _ hj')).1)] at hg'
      exact s.sep l l' i i' g (hsub _ hj) (hsub _ hj') hg hg'
  · rw [List.map_cons, List.nodup_cons]
    have hn := s.nd
    rw [List.map_append, List.map_cons] at hn
    refine ⟨fun h => ?_, ?_⟩
    · obtain ⟨x, hx, e⟩ := List.mem_map.1 h
      exact hne x.1 (mem_labs (L := x.1) (it := x.2) (hsub _ hx)).1 e
    · rw [List.map_append]
      exact hn.sublist ((List.Sublist.refl _).append (List.sublist_cons_self _ _))
  · intro l hl
    rw [upd_ne (by have := fresh_ge hN; omega)]
    exact s.keep l hl

/-! ### Effects of one operation -/
/-- Frozen stays frozen, and labels below stay. -/
def Later (L : Nat) (M M' : Fz) (φ φ' : Nat → Value) : Prop := M.le M' ∧ ∀ l, l < L → φ' l = φ l
/-- An operation that does something: its value, and what is known behind it. -/
def Does (P : Program) {n0 : Nat} (b : Base n0) (ρ : AEnv) (H : AStore) (o : Oper) (β : AVal) (H' : AStore) (L : Nat) : Prop :=
  ∀ M φ ξ w (a : Act), Core P b M φ ξ H w → EnvR P M φ ρ a.tmps → ∃ M' φ' ξ' w' v, ((execOp a.eval o).run P w = .ok (.value v) w' ∨ (v = undef ∧ (execOp a.eval o).run P w = .ok .skip w')) ∧ Core P b M' φ' ξ' H' w' ∧ EnvR P M' φ' ρ a.tmps ∧ Later L M M' φ φ' ∧ RelV P M' φ' β v

/-- Content that does not name a label. -/
def labOk (L : Nat) (s : Sh) (x : s.ty) : Bool := s.pers || !(s.labs x).any (Nat.beq L)
theorem rep_upd {s : Sh} {x : s.ty} {cs : List Value} {L : Nat} {u : Value} (hf : s.fixed = true) (h : labOk L s x = true) (hr : RepC P φ s M cs x) : RepC P (upd φ L u) s M cs x := by
  simp only [labOk, Bool.or_eq_true, Bool.not_eq_true'] at h
  rcases h with h | h
  · exact rep_pers h hr
  · refine rep_labs hf (fun l hl => upd_ne ?_) hr
    rintro rfl
    rw [List.any_eq_false] at h
    exact h l hl (by simp)

/-- What is boxed. -/
def boxA (n0 : Nat) (ρ : AEnv) (H : AStore) (T : TypeId) (L : Nat) (α : AVal) : Option (AVal × AStore) :=
  match putTV α with
  | some v => if v.1.fixed && v.1.isV && freshB n0 L ρ H && labOk L v.1 v.2 then some (.ptr L [] 0, (L, .var T v.1 v.2) :: H) else none
  | none => none
theorem does_box {T : TypeId} {x : Operand} {α β : AVal} {L : Nat} {H' : AStore} {dst pos after guard ty} (h : evA P ρ T x = some α) (hb : boxA n0 ρ H T L α = some (β, H')) : Does P b ρ H ⟨dst, .box T x, ty, pos, after, guard⟩ β H' L := by
  intro M φ ξ w a hc he
  unfold boxA at hb
  split at hb
  · rename_i v hp
    split at hb
    · rename_i hh
      simp only [Bool.and_eq_true] at hh
      obtain ⟨⟨⟨hf, hv⟩, hL⟩, hlo⟩ := hh
      simp only [Option.some.injEq, Prod.mk.injEq] at hb
      obtain ⟨rfl, rfl⟩ := hb
      obtain ⟨cs, e, hr⟩ := relV_put (evA_ok he h) hp hf
      have hcells := mkV_cells (rep_len hf hr) hv (rep_one hr)
      refine ⟨M, upd φ L (.pointer (some ⟨w.heap.size, 0, none⟩)), upd ξ L (some w.heap.size), w.alloc (.cells cs.toArray T), .pointer (some ⟨w.heap.size, 0, none⟩), .inl ?_, ?_, he.labs (fresh_env hL _ _), ⟨Fz.le_refl _, fun l hl => upd_ne (by omega)⟩, ?_⟩
      · show (vN (Instr.box T (a.eval x))).run P w = _
        refine vN_run ?_
        rw [e]
        simp [Instr.box, newVar, newRow, hcells]
      · exact hc.alloc hL ⟨hf, w.heap.size, cs.toArray, rfl, rfl, heap_alloc_new w _, rep_upd hf hlo hr⟩
      · exact ⟨w.heap.size, by rw [upd_same]; rfl, rfl⟩
    · cases hb
  · cases hb

/-- A variable with its zero value. -/
def allocA (P : Program) (n0 : Nat) (ρ : AEnv) (H : AStore) (T : TypeId) (L : Nat) : Option (AVal × AStore) :=
  match P.info? T with
  | some it => match it.zero with
    | some z => match dec (shOf P true 20 T) z.cells.toList with
      | some (x, []) => if (shOf P true 20 T).fixed && (shOf P true 20 T).isV && freshB n0 L ρ H && (shOf P true 20 T).pers then some (.ptr L [] 0, (L, .var T (shOf P true 20 T) x) :: H) else none
      | _ => none
    | none => none
  | none => none
theorem does_alloc {T : TypeId} {β : AVal} {L : Nat} {H' : AStore} {dst pos after guard ty} (hb : allocA P n0 ρ H T L = some (β, H')) : Does P b ρ H ⟨dst, .alloc T, ty, pos, after, guard⟩ β H' L := by
  intro M φ ξ w a hc he
  unfold allocA at hb
  split at hb
  · rename_i it hi
    split at hb
    · rename_i z hz
      split at hb
      · rename_i x hd
        split at hb
        · rename_i hh
          simp only [Bool.and_eq_true] at hh
          obtain ⟨⟨⟨hf, hv⟩, hL⟩, hlo⟩ := hh
          simp only [Option.some.injEq, Prod.mk.injEq] at hb
          obtain ⟨rfl, rfl⟩ := hb
          obtain ⟨c, hc', hr⟩ := dec_ok (P := P) (φ := φ) (M := M) hd
          rw [List.append_nil] at hc'
          subst hc'
          refine ⟨M, upd φ L (.pointer (some ⟨w.heap.size, 0, none⟩)), upd ξ L (some w.heap.size), w.alloc (.cells z.cells T), .pointer (some ⟨w.heap.size, 0, none⟩), .inl ?_, ?_, he.labs (fresh_env hL _ _), ⟨Fz.le_refl _, fun l hl => upd_ne (by omega)⟩, ?_⟩
          · show (vN (Instr.alloc T true (.tuple #[]))).run P w = _
            refine vN_run ?_
            simp [Instr.alloc, zeroValue, typeInfo, hi, hz, newVar, newRow]
          · exact hc.alloc hL ⟨hf, w.heap.size, z.cells, rfl, rfl, heap_alloc_new w _, rep_pers hlo hr⟩
          · exact ⟨w.heap.size, by rw [upd_same]; rfl, rfl⟩
        · cases hb
      · cases hb
    · cases hb
  · cases hb

theorem run_storeCellsAt {g : Nat} {t : TypeId} : ∀ (l : List Value) {w : World} {c : Array Value} {off i : Nat} {pre old post : List Value}, w.heap[g]? = some (.cells c t (0, 0)) → c.toList = pre ++ old ++ post → pre.length = off + i → old.length = l.length → (∀ v ∈ l, v.oneCell' = true) →
    ∃ w', (storeCells ⟨g, off, none⟩ l i).run P w = .ok () w' ∧ w'.heap[g]? = some (.cells (pre ++ l ++ post).toArray t (0, 0)) ∧ w'.os = w.os ∧ w'.tape = w.tape ∧ w'.output = w.output ∧ w'.heap.size = w.heap.size ∧ ∀ b, b ≠ g → w'.heap[b]? = w.heap[b]?
  | [], w, c, off, i, pre, old, post, h, hc, ho, hl, _ => by
    obtain rfl := List.length_eq_zero_iff.1 hl
    exact ⟨w, rfl, by rw [h, ← hc], rfl, rfl, rfl, rfl, fun _ _ => rfl⟩
  | v :: l, w, c, off, i, pre, old, post, h, hc, ho, hl, h1 => by
    cases old with
    | nil => simp at hl
    | cons o old =>
      have hv := h1 v (by simp)
      have hcell : w.cell? ((⟨g, off, none⟩ : Addr).add i) = some o := by
        have : c[off + i]? = some o := by rw [← Array.getElem?_toList, hc, ← ho]; simp
        rw [addz]
        simp [World.cell?, h, this]
      have hfz : w.frozen? ((⟨g, off, none⟩ : Addr).add i) = false := by rw [addz]; simp [World.frozen?, h]
      have hst : (store ((⟨g, off, none⟩ : Addr).add i) v).run P w = .ok () (w.setCell ((⟨g, off, none⟩ : Addr).add i) v) := by
        cases v <;> first | (simp [Value.oneCell'] at hv; done) | simp [store, Sem.run, hcell, hfz]
      have hset : (w.setCell ((⟨g, off, none⟩ : Addr).add i) v).heap[g]? = some (.cells (c.setIfInBounds (off + i) v) t (0, 0)) := by
        rw [addz]
        simp [World.setCell, Array.getElem?_modify, h]
      obtain ⟨w', r1, r2, r3, r4, r5, r6, r7⟩ := run_storeCellsAt l (w := w.setCell ((⟨g, off, none⟩ : Addr).add i) v) (off := off) (i := i + 1) (pre := pre ++ [v]) (old := old) (post := post) hset (by rw [Array.toList_setIfInBounds, hc, ← ho]; simp) (by simp [ho]; omega) (by simpa using hl) (fun u hu => h1 u (by simp [hu]))
      refine ⟨w', ?_, by simpa using r2, r3, r4, r5, r6.trans (by simp [World.setCell]), fun k hk => (r7 k hk).trans (Below.heap_setCell _ _ _ _ (by rw [addz]; exact hk))⟩
      simp only [storeCells, Sem.run_bind, hst, Result.andThen_ok, r1]

/-- A store. -/
def stoA (P : Program) (H : AStore) (T : TypeId) : AVal → AVal → Option (AStore × List Prop)
  | .ptr L p off, α => match putTV α, look H L with
    | some u, some it => match getP it.tv.1 it.tv.2 p, setI it p u with
      | some old, some it' => if rowOk it p && old.1.fixed && u.1.fixed && u.1.isV && Nat.beq old.1.size u.1.size && szB P T u.1.size then
          (if noI p && Nat.beq (offP it.tv.1 p) off then some (setL H L it', []) else some (setL H L it', [offP it.tv.1 p = off, okP it.tv.1 it.tv.2 p])) else none
      | _, _ => none
    | _, _ => none
  | _, _ => none
theorem does_store {L : Nat} {T : TypeId} {x y : Operand} {α γ : AVal} {H' : AStore} {C : List Prop} {dst pos after guard ty} (h1 : evA P ρ 0 x = some α) (h2 : evA P ρ T y = some γ) (hs : stoA P H T α γ = some (H', C)) (hC : AllP C) : Does P b ρ H ⟨dst, .store T x y, ty, pos, after, guard⟩ .undef H' L := by
  intro M φ ξ w a hc he
  have hu := evA_ok he h1
  have hv := evA_ok he h2
  unfold stoA at hs
  split at hs
  · rename_i _ L p off
    split at hs
    · rename_i u it hp hl
      split at hs
      · rename_i old it' hg hset
        split at hs
        · rename_i hh
          simp only [Bool.and_eq_true] at hh
          obtain ⟨⟨⟨⟨⟨k1, k2⟩, k3⟩, k4⟩, k5⟩, k6⟩ := hh
          have fin : H' = setL H L it' ∧ offP it.tv.1 p = off ∧ okP it.tv.1 it.tv.2 p := by
            split at hs
            · rename_i hn
              simp only [Bool.and_eq_true] at hn
              simp only [Option.some.injEq, Prod.mk.injEq] at hs
              exact ⟨hs.1.symm, Nat.eq_of_beq_eq_true hn.2, okP_noI hn.1 hg⟩
            · simp only [Option.some.injEq, Prod.mk.injEq] at hs
              obtain ⟨rfl, rfl⟩ := hs
              exact ⟨rfl, hC.1, hC.2.1⟩
          obtain ⟨rfl, ho, hok⟩ := fin
          obtain ⟨g, c, T', pre, cs, post, e1, e2, e3, e4, e5, e6, e7⟩ := place_ok hc hl k1 hg hok
          obtain ⟨g', e8, e9⟩ := hu
          obtain rfl := Option.some.inj (e1.symm.trans e8)
          obtain ⟨ds, e10, e11⟩ := relV_put hv hp k3
          have hdl := rep_len k3 e11
          have hcl := rep_len k2 e6
          have k5 := Nat.eq_of_beq_eq_true k5
          have hcells := mkV_cells hdl k4 (rep_one e11)
          obtain ⟨w', r1, r2, r3, r4, r5, r6, r7⟩ := run_storeCellsAt (P := P) ds (off := off) (i := 0) e3 e4 (by omega) (by omega) (rep_one e11)
          obtain ⟨H1, H2, rfl, hset', _⟩ := look_split hl
          refine ⟨M, φ, ξ, w', undef, .inr ⟨rfl, ?_⟩, ?_, he, ⟨Fz.le_refl _, fun _ _ => rfl⟩, rfl⟩
          · show (uN (Instr.storeAt T (a.eval x) (a.eval y))).run P w = _
            refine uN_run ?_
            rw [e9, e10]
            have hsz : (mkV u.1 ds).cells.size = u.1.size := by rw [hcells]; simpa using hdl
            simp [Instr.storeAt, Instr.sureAddr, storeVar, szB_ok k6, hcells, hdl, r1]
          · rw [hset']
            exact hc.write e2 r3 r4 r5 (by omega) (fun k hk => r7 k hk) (e7 ds u it' w' (by omega) e11 hset r2)
        · cases hs
      · cases hs
    · cases hs
  · cases hs
end
end Go.Proofs.YtlhbekiplnmolaaDoor
