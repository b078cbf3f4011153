/- The machine's side, told once: regions in whose beginning variables are made in an order that is left open. -/
import Derived.Test.YtlhbekiplnmolaaDoorEH
set_option linter.unusedVariables false
set_option linter.unusedSimpArgs false
namespace Go.Proofs.YtlhbekiplnmolaaDoor
open Go.RowKit

def allocI (P : Program) (T : TypeId) : Option AItem := match P.info? T with
  | some it => match it.zero with
    | some z => match dec (shOf P true 20 T) z.cells.toList with
      | some (x, []) => if (shOf P true 20 T).fixed && (shOf P true 20 T).isV && (shOf P true 20 T).pers then some (.var T (shOf P true 20 T) x) else none
      | _ => none
    | none => none
  | none => none

section
variable {P : Program} {fn : Func} {n0 : Nat} {b : Base n0} {R : Exit → Act → World → Prop} {k : List KI} {ρ : AEnv} {H H' : AStore} {ops : Array Oper} {orc : List (Nat × Orc)} {dec : List (Nat × Bool)}

/-! ### What is told of less is told of more -/
theorem rslv_sub (hs : ∀ L it, look H L = some it → look H' L = some it) : ∀ {s : Sh} {x : s.ty} {y : TV}, rslv H s x = some y → rslv H' s x = some y := by
  intro s
  induction s with
  | ref =>
    intro x y h
    simp only [rslv] at h ⊢
    split at h
    · rename_i e s xs hl
      rw [hs _ _ hl]
      exact h
    · cases h
  | prod a b iha ihb =>
    intro x y h
    simp only [rslv] at h ⊢
    split
    · rename_i hp; rw [if_pos hp] at h; exact h
    · rename_i hp
      rw [if_neg hp] at h
      split at h
      · rename_i y1 z1 h1 h2
        rw [iha h1, ihb h2]
        exact h
      · cases h
  | st s ih =>
    intro x y h
    simp only [rslv] at h ⊢
    split at h
    · rename_i y1 h1
      rw [ih h1]
      exact h
    · cases h
  | _ => intro x y h; exact h
theorem rsl_sub (hs : ∀ L it, look H L = some it → look H' L = some it) {v y : TV} (h : rsl H v = some y) : rsl H' v = some y := by
  unfold rsl at h ⊢
  split
  · rename_i hp; rw [if_pos hp] at h; exact h
  · rename_i hp; rw [if_neg hp] at h; exact rslv_sub hs h
theorem lendA_sub (hs : ∀ L it, look H L = some it → look H' L = some it) {α β : AVal} {z : Bool} (h : lendA H α = some (β, z)) : lendA H' α = some (β, z) := by
  cases α with
  | v s x =>
    simp only [lendA] at h ⊢
    split
    · rename_i hp; rw [if_pos hp] at h; exact h
    · rename_i hp
      rw [if_neg hp] at h
      split at h
      · rename_i y hy
        rw [rslv_sub hs hy]
        exact h
      · cases h
  | row L =>
    simp only [lendA] at h ⊢
    split at h
    · rename_i hl
      rw [hs _ _ hl]
      exact h
    · cases h
  | ptr L p off =>
    simp only [lendA] at h ⊢
    split at h
    · rename_i it hl
      rw [hs _ _ hl]
      simp only
      split at h
      · rename_i v hv
        split at h
        · rename_i y hy
          rw [rsl_sub hs hy]
          exact h
        · cases h
      · cases h
    · cases h
  | nilp => exact h
  | fp s x => exact h
  | _ => simp [lendA] at h
theorem lendL_sub (hs : ∀ L it, look H L = some it → look H' L = some it) : ∀ {l l' : List AVal} {z : Bool}, lendL H l = some (l', z) → lendL H' l = some (l', z)
  | [], l', z, h => h
  | α :: l, l', z, h => by
    simp only [lendL] at h ⊢
    split at h
    · rename_i β z1 r z2 h1 h2
      rw [lendA_sub hs h1, lendL_sub hs h2]
      exact h
    · cases h
theorem argA_sub (hs : ∀ L it, look H L = some it → look H' L = some it) {ps : PSh} {α β : AVal} {z : Bool} {C : List Prop} (h : argA P H ps α = some (β, z, C)) : argA P H' ps α = some (β, z, C) := by
  cases ps <;> cases α <;> simp only [argA] at h ⊢ <;> (split at h <;> first | (rename_i hl; simp only [lendA_sub hs hl]; exact h) | (rename_i hl; simp only [lendL_sub hs hl]; exact h) | cases h)
theorem argL_sub (hs : ∀ L it, look H L = some it → look H' L = some it) : ∀ {ps : List PSh} {l l' : List AVal} {z : Bool} {C : List Prop}, argL P H ps l = some (l', z, C) → argL P H' ps l = some (l', z, C)
  | [], [], _, _, _, h => h
  | ps :: q, α :: l, l', z, C, h => by
    simp only [argL] at h ⊢
    split at h
    · rename_i β z1 C1 r z2 C2 h1 h2
      rw [argA_sub hs h1, argL_sub hs h2]
      exact h
    · cases h
  | [], _ :: _, _, _, _, h => by simp [argL] at h
  | _ :: _, [], _, _, _, h => by simp [argL] at h
theorem callA_sub (hs : ∀ L it, look H L = some it → look H' L = some it) {l : List AVal} {q : Orc} {α : AVal} {r : AVal × List Prop} (h : callA P H l q α = some r) : callA P H' l q α = some r := by
  unfold callA at h ⊢
  split at h
  · split at h
    · rename_i l' z C ha
      simp only [argL_sub hs ha]
      exact h
    · cases h
  · exact h
  · cases h
theorem headOne_sub {ρ1 : AEnv} {M : Fz} {φ : Nat → Value} {ξ : Nat → Option Nat} {w : World} {a : Act} {res : List AVal} {i : Nat} {β : AVal} {C : List Prop} (hs : ∀ L it, look H L = some it → look H' L = some it) (hsub : H.Sublist H') (hc : Core P b M φ ξ H' w) (he : EnvR P M φ (resEnv ops i res 0 ++ ρ1) a.tmps) (h : headOne P orc dec ops ρ1 H res i = some (β, C)) (hC : AllP C) :
    ∃ o, ops[i]? = some o ∧ ((Region.wanted o (yielded ops a.tmps) = false ∧ β = .undef) ∨ (Region.wanted o (yielded ops a.tmps) = true ∧ Yld P o a w fun v w' => ∃ M', Core P b M' φ ξ H' w' ∧ M.le M' ∧ RelV P M' φ β v)) := by
  unfold headOne at h
  split at h
  · cases h
  · rename_i o ho
    refine ⟨o, ho, ?_⟩
    split at h
    · cases h
    · rename_i hg
      simp only [Option.some.injEq, Prod.mk.injEq] at h
      exact .inl ⟨gdE_ok he hg, h.1.symm⟩
    · rename_i hg
      right
      refine ⟨gdE_ok he hg, ?_⟩
      obtain ⟨dst, op, ty, pos, after, guard⟩ := o
      have pure : (match pv P (resEnv ops i res 0 ++ ρ1) H ty op with | some (β, C) => some ((dcd dec i β).1, C ++ (dcd dec i β).2) | none => none) = some (β, C) → Yld P ⟨dst, op, ty, pos, after, guard⟩ a w fun v w' => ∃ M', Core P b M' φ ξ H' w' ∧ M.le M' ∧ RelV P M' φ β v := by
        intro h
        split at h
        · rename_i γ C' hp
          simp only [Option.some.injEq, Prod.mk.injEq] at h
          obtain ⟨rfl, rfl⟩ := h
          obtain ⟨c1, c2⟩ := AllP.app hC
          obtain ⟨v, h1, h2⟩ := pv_ok (o := ⟨dst, op, ty, pos, after, guard⟩) (hc.sub hsub) he hp c1
          exact .inl ⟨v, w, h1, M, hc, Fz.le_refl _, dcd_ok h2 c2⟩
        · cases h
      cases op with
      | call c =>
        obtain ⟨callee, xs, ts⟩ := c
        cases callee with
        | value fx =>
          simp only at h
          split at h
          · rename_i q hq
            split at h
            · rename_i α l hα hl
              split at h
              · rename_i hn
                split at h
                · rename_i γ C' hca
                  simp only [Option.some.injEq, Prod.mk.injEq] at h
                  obtain ⟨rfl, rfl⟩ := h
                  obtain ⟨c1, c2⟩ := AllP.app hC
                  have := does_callM (ts := ts) (ty := ty) (dst := dst) (pos := pos) (after := after) (guard := guard) hα hl (Nat.eq_of_beq_eq_true hn) (callA_sub hs hca) c1 M φ ξ w a hc he
                  rcases this with ⟨v, w', h1, M', h2, h3, h4⟩ | ⟨w', h1, M', h2, h3, h4⟩ | ⟨f, args, h1, h2⟩
                  · exact .inl ⟨v, w', h1, M', h2, h3, dcd_ok h4 c2⟩
                  · exact .inr (.inl ⟨w', h1, M', h2, h3, dcd_ok h4 c2⟩)
                  · refine .inr (.inr ⟨f, args, h1, h2.mono ?_⟩)
                    rintro e w' ⟨v, rfl, M', h2, h3, h4⟩
                    exact ⟨v, rfl, M', h2, h3, dcd_ok h4 c2⟩
                · cases h
              · cases h
            · cases h
          · cases h
        | _ => exact pure h
      | _ => exact pure h

/-! ### Variables that are made in any order -/
theorem alloc_at {T : TypeId} {L : Nat} {it : AItem} {ty : TypeId} {dst pos after guard} {M : Fz} {φ : Nat → Value} {ξ : Nat → Option Nat} {w : World} {a : Act} (h : allocI P T = some it) (hc : Core P b M φ ξ H w) (hL : freshB n0 L ([] : AEnv) H = true) :
    ∃ u w', (execOp a.eval ⟨dst, .alloc T, ty, pos, after, guard⟩).run P w = .ok (.value u) w' ∧ Core P b M (upd φ L u) (upd ξ L (some w.heap.size)) ((L, it) :: H) w' ∧ RelV P M (upd φ L u) (.ptr L [] 0) u ∧ it.labs = [] := by
  unfold allocI at h
  split at h
  · rename_i ti hi
    split at h
    · rename_i z hz
      split at h
      · rename_i x hd
        split at h
        · rename_i hh
          simp only [Bool.and_eq_true] at hh
          obtain ⟨⟨hf, hv⟩, hlo⟩ := hh
          simp only [Option.some.injEq] at h
          subst h
          obtain ⟨c, hc', hr⟩ := dec_ok (P := P) (φ := φ) (M := M) hd
          rw [List.append_nil] at hc'
          subst hc'
          refine ⟨.pointer (some ⟨w.heap.size, 0, none⟩), w.alloc (.cells z.cells T), ?_, ?_, ⟨w.heap.size, by rw [upd_same]; rfl, rfl⟩, if_pos hlo⟩
          · show (vN (Instr.alloc T true (.tuple #[]))).run P w = _
            refine vN_run ?_
            simp [Instr.alloc, zeroValue, typeInfo, hi, hz, newVar, newRow]
          · exact hc.alloc hL ⟨hf, w.heap.size, z.cells, rfl, rfl, heap_alloc_new w _, rep_pers hlo hr⟩
        · cases h
      · cases h
    · cases h
  · cases h

theorem look_of_mem {α : Type} : ∀ {H : List (Nat × α)} {L : Nat} {it : α}, (H.map Prod.fst).Nodup → (L, it) ∈ H → look H L = some it
  | (l, i) :: H, L, it, hn, hm => by
    rw [List.map_cons, List.nodup_cons] at hn
    simp only [look]
    rcases List.mem_cons.1 hm with e | hm
    · simp only [Prod.mk.injEq] at e
      obtain ⟨rfl, rfl⟩ := e
      simp
    · have hne : ¬ Nat.beq l L = true := fun e => by
        have e := Nat.eq_of_beq_eq_true e
        subst e
        exact hn.1 (List.mem_map.2 ⟨_, hm, rfl⟩)
      rw [if_neg hne]
      exact look_of_mem hn.2 hm

/-- What stands open in the beginning. -/
structure Free (P : Program) (orc : List (Nat × Orc)) (dec : List (Nat × Bool)) (m L0 : Nat) (ops : Array Oper) (ρ : AEnv) (H : AStore) (res : List AVal) (fi : Nat → AItem) : Prop where
  lab : ∀ l ∈ storeLabs H, l < L0
  al : ∀ i, i < ops.size → loudB orc ops i = true → cntL orc ops i < m → res[i]? = some (.ptr (L0 + 20 * i) [] 0) ∧ ∃ o T, ops[i]? = some o ∧ o.op = .alloc T ∧ o.guard = none ∧ allocI P T = some (fi i)
  rs : ∀ i j α, i < ops.size → j < ops.size → loudB orc ops i = true → cntL orc ops i < m → res[j]? = some α → j = i ∨ bitB (masks ops ops.size) j i = true ∨ (L0 + 20 * i) ∉ α.labs
  qu : ∀ i, i < ops.size → loudB orc ops i = false → (∀ f, f < ops.size → loudB orc ops f = true → cntL orc ops f < m → bitB (masks ops ops.size) i f = true) ∨ ∃ β C, res[i]? = some β ∧ AllP C ∧ (headOne P orc dec ops (oldEnv ops (masks ops ops.size) i ρ) [] res i = some (β, C) ∨ headOne P orc dec ops (oldEnv ops (masks ops ops.size) i ρ) H res i = some (β, C))

def gotten (L0 : Nat) (fi : Nat → AItem) (l : List Nat) (H : AStore) : AStore := (l.map fun j => (L0 + 20 * j, fi j)) ++ H

structure Inv3 (P : Program) (fn : Func) {n0 : Nat} (b : Base n0) (orc : List (Nat × Orc)) (ops : Array Oper) (ρ : AEnv) (m L0 : Nat) (fi : Nat → AItem) (H : AStore) (res : List AVal) (listed : Array Bool) (ord : List Nat) (a : Act) (w : World) : Prop where
  sz : listed.size = ops.size
  nd : ord.Nodup
  mem : ∀ i, i ∈ ord ↔ (i < ops.size ∧ listed.getD i false = true)
  closed : ∀ i ∈ ord, ∀ j, depB ops i j = true → j ∈ ord
  ld : ∀ j ∈ ord, loudB orc ops j = true → cntL orc ops j < m
  tm : a.tmps.size = fn.ntmps
  df : a.defers = []
  st : ∃ M φ ξ, Core P b M φ ξ (gotten L0 fi (ord.filter (loudB orc ops)) H) w ∧ (∀ t α, look ρ t = some α → (∀ j ∈ ord, dstOf ops j ≠ some t) → ∃ v, a.tmps[t]? = some v ∧ RelV P M φ α v) ∧ ∀ i ∈ ord, ∀ d α, dstOf ops i = some d → res[i]? = some α → ∃ v, a.tmps[d]? = some v ∧ RelV P M φ α v

theorem gotten_labs {L0 : Nat} {fi : Nat → AItem} {l : List Nat} {x : Nat} (hf : ∀ j ∈ l, (fi j).labs = []) (h : x ∈ storeLabs (gotten L0 fi l H)) : x ∈ storeLabs H ∨ ∃ j ∈ l, x = L0 + 20 * j := by
  unfold gotten storeLabs at h
  rw [List.flatMap_append, List.mem_append] at h
  rcases h with h | h
  · obtain ⟨y, h1, h2⟩ := List.mem_flatMap.1 h
    obtain ⟨j, h3, rfl⟩ := List.mem_map.1 h1
    simp only [hf j h3, List.mem_cons, List.not_mem_nil, or_false] at h2
    exact .inr ⟨j, h3, h2⟩
  · exact .inl h

theorem free_any {m L0 nt : Nat} {res : List AVal} {Hs : List AStore} {fi : Nat → AItem} (hn0 : n0 ≤ L0) (hnt : nt = fn.ntmps) (hlen : res.length = ops.size) (ok : Plan2 m orc L0 nt ops (masks ops ops.size) ρ res) (fr : Free P orc dec m L0 ops ρ H res fi)
    (next : ∀ (fuel : Nat) (listed : Array Bool) (ord : List Nat) (a : Act) (w : World), ord.length + fuel = ops.size → Inv2 P fn b orc ops ρ Hs res listed ord m a w → wpAny P .any ops (kwp P R k) fuel listed a w)
    {Hm : AStore} {lm : List Nat} (hHm : Hs[m]? = some Hm) (hlm : Hm = gotten L0 fi lm H) (hlm1 : lm.Nodup) (hlm2 : ∀ j, j ∈ lm ↔ j < ops.size ∧ loudB orc ops j = true ∧ cntL orc ops j < m) :
    ∀ (fuel : Nat) (listed : Array Bool) (ord : List Nat) (a : Act) (w : World), ord.length + fuel = ops.size → (∃ f, f < ops.size ∧ loudB orc ops f = true ∧ cntL orc ops f < m ∧ f ∉ ord) → Inv3 P fn b orc ops ρ m L0 fi H res listed ord a w → wpAny P .any ops (kwp P R k) fuel listed a w := by
  intro fuel
  induction fuel with
  | zero =>
    intro listed ord a w hln ⟨f, f1, _, _, f4⟩ inv
    exfalso
    have := nodup_lt (l := f :: ord) (m := ops.size) (List.nodup_cons.2 ⟨f4, inv.nd⟩) (fun j hj => by
      rcases List.mem_cons.1 hj with rfl | hj
      · exact f1
      · exact ((inv.mem j).1 hj).1)
    simp at this
    omega
  | succ fuel ih =>
    intro listed ord a w hln ⟨f, f1, f2, f3, f4⟩ inv
    have some' : ∃ i, i ∈ Region.ready .any ops listed := by
      have : ∃ i, i < ops.size ∧ i ∉ ord := ⟨f, f1, f4⟩
      obtain ⟨i, hi, hn⟩ := this
      induction i using Nat.strongRecOn with
      | _ i ih2 =>
        by_cases hd : ∃ j, depB ops i j = true ∧ j ∉ ord
        · obtain ⟨j, hj, hjn⟩ := hd
          have := ok.back i j hj
          exact ih2 j this (by omega) hjn
        · refine ⟨i, mem_ready.2 ⟨?_, ops[i], Array.getElem?_eq_getElem hi, fun e he hb => ?_⟩⟩
          · have hsz : i < listed.size := by rw [inv.sz]; exact hi
            cases hv : listed.getD i true with
            | false => rfl
            | true =>
              exfalso
              refine hn ((inv.mem i).2 ⟨hi, ?_⟩)
              simp [Array.getD, hsz] at hv ⊢
              exact hv
          · have hdep : depB ops i e.on = true := by
              unfold depB
              simp only [Array.getElem?_eq_getElem hi]
              exact Array.any_eq_true'.2 ⟨e, he, by simp [hb]⟩
            have : e.on ∈ ord := Decidable.byContradiction fun hn => hd ⟨e.on, hdep, hn⟩
            exact ((inv.mem _).1 this).2
    refine ⟨fun h0 => ?_, fun i hi => ?_⟩
    · obtain ⟨i, hi⟩ := some'
      rw [h0] at hi
      cases hi
    · obtain ⟨h0, o, ho, hrd⟩ := mem_ready.1 hi
      have hin := (Array.getElem?_eq_some_iff.1 ho).1
      have hdep : ∀ j, depB ops i j = true → j ∈ ord := by
        intro j hj
        obtain ⟨o', ho', e, he, hb, rfl⟩ := depB_spec hj
        rw [ho] at ho'
        obtain rfl := Option.some.inj ho'
        exact (inv.mem _).2 ⟨by have := ok.back i e.on hj; omega, hrd e he hb⟩
      have hni : i ∉ ord := fun h => by
        have h1 := ((inv.mem i).1 h).2
        have hsz : i < listed.size := by rw [inv.sz]; exact hin
        simp [Array.getD, hsz] at h0 h1
        rw [h0] at h1
        cases h1
      have clos : ∀ j, bitB (masks ops ops.size) i j = true → j ∈ ord := fun j hj => mask_in inv.closed hin hdep hj
      have closO : ∀ j ∈ ord, bitB (masks ops ops.size) j i = true → False := fun j hj hb => hni (mask_in inv.closed ((inv.mem j).1 hj).1 (inv.closed j hj) hb)
      obtain ⟨M, φ, ξ, g1, g2, g3⟩ := inv.st
      have henv : EnvR P M φ (resEnv ops i res 0 ++ oldEnv ops (masks ops ops.size) i ρ) a.tmps := by
        intro t α ht
        rw [look_app] at ht
        cases hx : look (resEnv ops i res 0) t with
        | some γ =>
          rw [hx] at ht
          simp only [Option.some.injEq] at ht
          subst ht
          obtain ⟨q, h4, h5, h6⟩ := look_resEnv hx
          rw [Nat.zero_add] at h5 h6
          exact g3 q (hdep q h6) t γ h5 h4
        | none =>
          rw [hx] at ht
          obtain ⟨k1, k2⟩ := look_old ht
          exact g2 t α k1 fun j hj hd => closO j hj (k2 j ((inv.mem j).1 hj).1 hd)
      have hdst : dstOf ops i = o.dst := by simp [dstOf, ho]
      have memb : ∀ j, j ∈ i :: ord ↔ (j < ops.size ∧ (listed.setIfInBounds i true).getD j false = true) := by
        intro j
        rw [List.mem_cons, inv.mem j]
        have hsz : i < listed.size := by rw [inv.sz]; exact hin
        by_cases e : j = i
        · subst e
          simp [Array.getD, hsz, hin]
        · have e' : ¬ i = j := fun h => e h.symm
          have hs : (listed.setIfInBounds i true).getD j false = listed.getD j false := by
            rw [Array.getD_eq_getD_getElem?, Array.getD_eq_getD_getElem?, Array.getElem?_setIfInBounds_ne e']
          rw [hs]
          simp [e]
      have clo2 : ∀ j ∈ i :: ord, ∀ q, depB ops j q = true → q ∈ i :: ord := fun j hj q hq => by
        rcases List.mem_cons.1 hj with rfl | hj
        · exact List.mem_cons_of_mem _ (hdep q hq)
        · exact List.mem_cons_of_mem _ (inv.closed j hj q hq)
      -- the slots behind it
      have slots : ∀ (β : AVal) (v : Value) (M' : Fz) (φ' : Nat → Value), res[i]? = some β → M.le M' → (∀ t α, look ρ t = some α → ∀ l ∈ α.labs, φ' l = φ l) → (∀ j ∈ ord, ∀ α, res[j]? = some α → ∀ l ∈ α.labs, φ' l = φ l) → RelV P M' φ' β v →
          (∀ t α, look ρ t = some α → (∀ j ∈ i :: ord, dstOf ops j ≠ some t) → ∃ u, (a.put o.dst v).tmps[t]? = some u ∧ RelV P M' φ' α u) ∧ ∀ j ∈ i :: ord, ∀ d α, dstOf ops j = some d → res[j]? = some α → ∃ u, (a.put o.dst v).tmps[d]? = some u ∧ RelV P M' φ' α u := by
        intro β v M' φ' hβ c2 c4 c5 c3
        refine ⟨fun t α ht hne => ?_, fun j hj d α hd hα => ?_⟩
        · obtain ⟨u, h1, h2⟩ := g2 t α ht fun j hj => hne j (List.mem_cons_of_mem _ hj)
          refine ⟨u, ?_, relV_mono c2 (relV_labs (c4 t α ht) h2)⟩
          rw [put_get (hdst ▸ hne i (List.mem_cons_self ..))]
          exact h1
        · rcases List.mem_cons.1 hj with rfl | hj
          · rw [hβ] at hα
            obtain rfl := Option.some.inj hα
            refine ⟨v, ?_, c3⟩
            rw [← hdst, hd]
            have := ok.dlt j d hd
            simp [Act.put, inv.tm, ← hnt, this]
          · obtain ⟨u, h1, h2⟩ := g3 j hj d α hd hα
            refine ⟨u, ?_, relV_mono c2 (relV_labs (c5 j hj α hα) h2)⟩
            have hne : o.dst ≠ some d := by
              rw [← hdst]
              intro e
              rcases Nat.lt_trichotomy i j with h | h | h
              · exact ok.dd j i d h hd e
              · subst h; exact hni hj
              · exact ok.dd i j d h e hd
            rw [put_get hne]
            exact h1
      have hln' : (i :: ord).length + fuel = ops.size := by simp; omega
      unfold wpOp
      simp only [ho]
      cases hloud : loudB orc ops i with
      | false =>
        rcases fr.qu i hin hloud with hall | ⟨β, C', r1, r3, r2⟩
        · exact absurd (clos f (hall f f1 f2 f3)) f4
        · have hsub : H.Sublist (gotten L0 fi (ord.filter (loudB orc ops)) H) := List.sublist_append_right _ _
          have hs : ∀ L it, look H L = some it → look (gotten L0 fi (ord.filter (loudB orc ops)) H) L = some it := fun L it h => look_of_mem g1.nd (hsub.subset (look_mem h))
          have hone : ∃ o, ops[i]? = some o ∧ ((Region.wanted o (yielded ops a.tmps) = false ∧ β = .undef) ∨ (Region.wanted o (yielded ops a.tmps) = true ∧ Yld P o a w fun v w' => ∃ M', Core P b M' φ ξ (gotten L0 fi (ord.filter (loudB orc ops)) H) w' ∧ M.le M' ∧ RelV P M' φ β v)) := by
            rcases r2 with r2 | r2
            · exact headOne_free g1 henv r2 r3
            · exact headOne_sub hs hsub g1 henv r2 r3
          obtain ⟨o', ho', hcase⟩ := hone
          rw [ho] at ho'
          obtain rfl := Option.some.inj ho'
          have hfil : (i :: ord).filter (loudB orc ops) = ord.filter (loudB orc ops) := by rw [List.filter_cons, hloud]; rfl
          have st : ∀ (v : Value) (M' : Fz) (w' : World), Core P b M' φ ξ (gotten L0 fi (ord.filter (loudB orc ops)) H) w' → M.le M' → RelV P M' φ β v → wpAny P .any ops (kwp P R k) fuel (listed.setIfInBounds i true) (a.put o.dst v) w' := fun v M' w' c1 c2 c3 => by
            obtain ⟨s1, s2⟩ := slots β v M' φ r1 c2 (fun _ _ _ _ _ => rfl) (fun _ _ _ _ _ _ => rfl) c3
            refine ih _ (i :: ord) _ w' hln' ⟨f, f1, f2, f3, fun h => ?_⟩ ⟨by simp [inv.sz], List.nodup_cons.2 ⟨hni, inv.nd⟩, memb, clo2, fun j hj hl => ?_, by rw [put_size]; exact inv.tm, by rw [put_defers]; exact inv.df, M', φ, ξ, by rw [hfil]; exact c1, s1, s2⟩
            · rcases List.mem_cons.1 h with rfl | h
              · rw [hloud] at f2; cases f2
              · exact f4 h
            · rcases List.mem_cons.1 hj with rfl | hj
              · rw [hloud] at hl; cases hl
              · exact inv.ld j hj hl
          rcases hcase with ⟨hw, rfl⟩ | ⟨hw, hy⟩
          · simp only [hw, Bool.false_eq_true, if_false]
            exact st undef M w g1 (Fz.le_refl _) rfl
          · simp only [hw, if_true]
            left
            unfold Oper.wp
            rcases hy with ⟨v, w', h1, M', h2, h3, h4⟩ | ⟨w', h1, M', h2, h3, h4⟩ | ⟨f', args, h1, h2⟩
            · rw [h1]
              simp only [Oper.upon_value]
              exact st v M' w' h2 h3 h4
            · rw [h1]
              simp only [Oper.upon_skip]
              exact st undef M' w' h2 h3 h4
            · rw [h1]
              simp only [Oper.upon_enter]
              refine h2.mono ?_
              rintro e w' ⟨v, rfl, M', h2, h3, h4⟩
              exact st v M' w' h2 h3 h4
      | true =>
        have hcm : cntL orc ops i < m := by
          rcases Nat.lt_or_ge (cntL orc ops i) m with h | h
          · exact h
          · exfalso
            have hfi : f < i := by
              rcases Nat.lt_or_ge f i with h' | h'
              · exact h'
              · have := cntL_mono (orc := orc) (ops := ops) h'
                omega
            exact f4 (clos f (ok.chain i f hin hfi h hloud f2))
        obtain ⟨r1, o', T, ho', hop, hgd, hit⟩ := fr.al i hin hloud hcm
        rw [ho] at ho'
        obtain rfl := Option.some.inj ho'
        obtain ⟨dst, op, ty, pos, after, guard⟩ := o
        simp only at hop hgd
        subst hop hgd
        have hall0 : ∀ j ∈ ord.filter (loudB orc ops), (fi j).labs = [] ∧ j ∈ ord := fun j hj => by
          obtain ⟨q1, q2⟩ := List.mem_filter.1 hj
          obtain ⟨_, o2, T2, _, _, _, q3⟩ := fr.al j ((inv.mem j).1 q1).1 q2 (inv.ld j q1 q2)
          refine ⟨?_, q1⟩
          unfold allocI at q3
          split at q3
          · split at q3
            · split at q3
              · split at q3
                · rename_i hh
                  simp only [Bool.and_eq_true] at hh
                  simp only [Option.some.injEq] at q3
                  rw [← q3]
                  exact if_pos hh.2
                · cases q3
              · cases q3
            · cases q3
          · cases q3
        have hL : freshB n0 (L0 + 20 * i) ([] : AEnv) (gotten L0 fi (ord.filter (loudB orc ops)) H) = true := by
          simp only [freshB, envLabs, List.flatMap_nil, List.nil_append, Bool.and_eq_true, Bool.not_eq_true']
          refine ⟨by rw [Nat.ble_eq]; omega, ?_⟩
          rw [List.any_eq_false]
          intro x hx e
          have e := Nat.eq_of_beq_eq_true e
          rcases gotten_labs (fun j hj => (hall0 j hj).1) hx with h | ⟨j, hj, h⟩
          · have := fr.lab x h; omega
          · have : i = j := by omega
            subst this
            exact hni (hall0 i hj).2
        obtain ⟨u, w', e1, c1, c3, _⟩ := alloc_at (b := b) (ty := ty) (dst := dst) (pos := pos) (after := after) (guard := none) (a := a) hit g1 hL
        have hw : Region.wanted ⟨dst, .alloc T, ty, pos, after, none⟩ (yielded ops a.tmps) = true := rfl
        simp only [hw, if_true]
        left
        unfold Oper.wp
        rw [e1]
        simp only [Oper.upon_value]
        have hfil : (i :: ord).filter (loudB orc ops) = i :: ord.filter (loudB orc ops) := by rw [List.filter_cons, hloud]; rfl
        have c1' : Core P b M (upd φ (L0 + 20 * i) u) (upd ξ (L0 + 20 * i) (some w.heap.size)) (gotten L0 fi ((i :: ord).filter (loudB orc ops)) H) w' := by rw [hfil]; exact c1
        obtain ⟨s1, s2⟩ := slots _ u M (upd φ (L0 + 20 * i) u) r1 (Fz.le_refl _) (fun t α ht l hl => upd_ne (by have := ok.old l (List.mem_flatMap.2 ⟨_, look_mem ht, hl⟩); omega)) (fun j hj α hα l hl => upd_ne (fun e => by
          rcases fr.rs i j α hin ((inv.mem j).1 hj).1 hloud hcm hα with h | h | h
          · subst h; exact hni hj
          · exact closO j hj h
          · exact h (e ▸ hl))) c3
        have sz' : (listed.setIfInBounds i true).size = ops.size := by simp [inv.sz]
        have nd' : (i :: ord).Nodup := List.nodup_cons.2 ⟨hni, inv.nd⟩
        have ld' : ∀ j ∈ i :: ord, loudB orc ops j = true → cntL orc ops j < m := fun j hj hl => by
          rcases List.mem_cons.1 hj with rfl | hj
          · exact hcm
          · exact inv.ld j hj hl
        rcases Decidable.em (∃ f, f < ops.size ∧ loudB orc ops f = true ∧ cntL orc ops f < m ∧ f ∉ i :: ord) with hmore | hmore
        · exact ih _ (i :: ord) _ w' hln' hmore ⟨sz', nd', memb, clo2, ld', by rw [put_size]; exact inv.tm, by rw [put_defers]; exact inv.df, M, _, _, c1', s1, s2⟩
        · have hall : ∀ f, f < ops.size → loudB orc ops f = true → cntL orc ops f < m → f ∈ i :: ord := fun f q1 q2 q3 => Decidable.byContradiction fun h => hmore ⟨f, q1, q2, q3, h⟩
          have hperm : ((i :: ord).filter (loudB orc ops)).Perm lm := by
            rw [List.perm_ext_iff_of_nodup (nd'.sublist List.filter_sublist) hlm1]
            intro j
            rw [List.mem_filter, hlm2]
            exact ⟨fun ⟨q1, q2⟩ => ⟨((memb j).1 q1).1, q2, ld' j q1 q2⟩, fun ⟨q1, q2, q3⟩ => ⟨hall j q1 q2 q3, q2⟩⟩
          have c2 : Core P b M (upd φ (L0 + 20 * i) u) (upd ξ (L0 + 20 * i) (some w.heap.size)) Hm w' := by
            rw [hlm]
            exact c1'.perm ((hperm.map _).append_right _)
          exact next fuel _ (i :: ord) _ w' hln' ⟨sz', nd', memb, clo2, fun j q1 q2 => ⟨fun h => ld' j h q2, fun h => hall j q1 q2 h⟩, by rw [put_size]; exact inv.tm, by rw [put_defers]; exact inv.df, M, _, _, Hm, hHm, c2, s1, s2⟩

def fiA (P : Program) (ops : Array Oper) (i : Nat) : AItem := match ops[i]? with
  | some o => match o.op with
    | .alloc T => match allocI P T with
      | some it => it
      | none => .var 0 .unit ()
    | _ => .var 0 .unit ()
  | none => .var 0 .unit ()
def freeB (P : Program) (orc : List (Nat × Orc)) (dec : List (Nat × Bool)) (m n0 L0 : Nat) (ops : Array Oper) (ms : List Nat) (ρ : AEnv) (H : AStore) (res : List AVal) : Bool :=
  Nat.ble n0 L0 && ltB L0 (storeLabs H) && Nat.ble m (cntL orc ops ops.size) && (List.range ops.size).all fun i =>
    if loudB orc ops i then !Nat.blt (cntL orc ops i) m || (
      (match ops[i]? with | some o => (match o.op with | .alloc T => (allocI P T).isSome && o.guard.isNone && (look dec i).isNone | _ => false) | none => false) &&
      (List.range ops.size).all (fun j => Nat.beq j i || bitB ms j i || !(match res[j]? with | some α => α.labs | none => []).any (Nat.beq (L0 + 20 * i))))
    else (List.range ops.size).all (fun f => !loudB orc ops f || !Nat.blt (cntL orc ops f) m || bitB ms i f) || Nat.beq (cntL orc ops i) 0 || (headOne P orc dec ops (oldEnv ops ms i ρ) [] res i).isSome
def evF (P : Program) (n0 nt : Nat) (orc : List (Nat × Orc)) (dec : List (Nat × Bool)) (m L0 : Nat) (ls lh : List Nat) (ops : Array Oper) (ρ : AEnv) (H : AStore) : Option (AEnv × AStore × List Prop) :=
  match mainE P n0 orc dec L0 ops (masks ops ops.size) ρ H ops.size with
  | none => none
  | some (res, Hs, C1) => if nodupB lh && plan2 m orc L0 nt ops (masks ops ops.size) ρ res && freeB P orc dec m n0 L0 ops (masks ops ops.size) ρ H res then match extraE P orc dec ops (masks ops ops.size) ρ Hs res (pairs ops.size (cntL orc ops ops.size)) with
    | none => none
    | some C2 => match Hs[cntL orc ops ops.size]? with
      | none => none
      | some Hn => match trimE ls (allEnv ops res 0 ++ keepB ops ops.size ρ), trimH lh Hn with
        | some ρ', some H' => some (ρ', H', C1 ++ C2)
        | _, _ => none
    else none

theorem alloc_loud {L0 i : Nat} {ms : List Nat} {res : List AVal} {H1 H2 : AStore} {β : AVal} {C' : List Prop} {o : Oper} {T : TypeId} (ho : ops[i]? = some o) (hop : o.op = .alloc T) (hg : o.guard = none) (hd : look dec i = none) {it : AItem} (hit : allocI P T = some it) (h : loudAt P n0 orc dec L0 ops ms ρ H1 res i = some (β, H2, C')) : β = .ptr (L0 + 20 * i) [] 0 ∧ H2 = (L0 + 20 * i, it) :: H1 := by
  unfold loudAt at h
  have hgd : gdE ops o (opEnv ops ms ρ res i) = some true := by simp [gdE, hg]
  simp only [ho, hgd] at h
  have hs : stepE P n0 orc i (opEnv ops ms ρ res i) H1 (L0 + 20 * i) o = (match allocA P n0 (opEnv ops ms ρ res i) H1 T (L0 + 20 * i) with | some (β, H') => some (β, H', []) | none => none) := by
    unfold stepE
    rw [hop]
    rfl
  rw [hs] at h
  split at h
  · rename_i β1 H3 C1 h1
    simp only [Option.some.injEq, Prod.mk.injEq] at h
    obtain ⟨rfl, rfl, _⟩ := h
    split at h1
    · rename_i β2 H4 h2
      simp only [Option.some.injEq, Prod.mk.injEq] at h1
      obtain ⟨rfl, rfl, _⟩ := h1
      unfold allocA at h2
      unfold allocI at hit
      split at hit
      · rename_i ti hti
        simp only [hti] at h2
        split at hit
        · rename_i z hz
          simp only [hz] at h2
          split at hit
          · rename_i x hx
            simp only [hx] at h2
            split at hit
            · simp only [Option.some.injEq] at hit
              subst hit
              split at h2
              · simp only [Option.some.injEq, Prod.mk.injEq] at h2
                obtain ⟨rfl, rfl⟩ := h2
                exact ⟨by simp [dcd, hd], rfl⟩
              · cases h2
            · cases hit
          · cases hit
        · cases hit
      · cases hit
    · cases h1
  · cases h

/-- A region in whose beginning variables are made in an order that is left open. -/
theorem regF {c : Code} {ρ' : AEnv} {H' : AStore} (orc : List (Nat × Orc)) (dec : List (Nat × Bool)) (m L0 : Nat) (ls lh : List Nat) (C : List Prop) (hm : P.follows .mixedOrders = true) (hc : Code.kind c = .region ops true) (h : evF P n0 fn.ntmps orc dec m L0 ls lh ops ρ H = some (ρ', H', C)) (hC : AllP C) (hr : Run P fn b R k ρ' H') : Run P fn b R (.code c :: k) ρ H := by
  cases c <;> simp [Code.kind] at hc
  rename_i ops' _
  obtain ⟨e1, e2⟩ := hc
  subst e2
  have e1 := e1.symm
  subst e1
  unfold evF at h
  split at h
  · cases h
  · rename_i res Hs C1 h1
    split at h
    · rename_i hn
      simp only [Bool.and_eq_true] at hn
      obtain ⟨⟨hn1, hn2⟩, hn3⟩ := hn
      split at h
      · cases h
      · rename_i C2 h2
        split at h
        · cases h
        · rename_i Hn hHn
          split at h
          · rename_i ρ2 H2 h3 h4
            simp only [Option.some.injEq, Prod.mk.injEq] at h
            obtain ⟨rfl, rfl, rfl⟩ := h
            obtain ⟨c1, c2⟩ := AllP.app hC
            have ok := plan2_ok hn2
            obtain ⟨m1, m2, m3, m4, m5⟩ := main_ok ok.back h1 c1
            have quiet : ∀ i, i < ops.size → loudB orc ops i = false → ∀ k Hk, k ≤ cntL orc ops ops.size → Hs[k]? = some Hk → mayB orc ops (masks ops ops.size) i k = true → ∃ β C', res[i]? = some β ∧ AllP C' ∧ (headOne P orc dec ops (oldEnv ops (masks ops ops.size) i ρ) [] res i = some (β, C') ∨ headOne P orc dec ops (oldEnv ops (masks ops ops.size) i ρ) Hk res i = some (β, C')) := by
              intro i hi hl k Hk hk hHk hmay
              obtain ⟨β, H1, C', q1, q2, q3, q4⟩ := m5 i hi hl
              unfold quietAt at q3
              split at q3
              · rename_i r hr
                simp only [Option.some.injEq] at q3
                subst q3
                exact ⟨β, C', q1, q4, .inl hr⟩
              · rename_i hr
                by_cases e : k = cntL orc ops i
                · subst e
                  rw [q2] at hHk
                  obtain rfl := Option.some.inj hHk
                  exact ⟨β, C', q1, q4, .inr q3⟩
                · rcases extra_ok h2 c2 i k (List.mem_flatMap.2 ⟨i, List.mem_range.2 hi, List.mem_map.2 ⟨k, List.mem_range.2 (by omega), rfl⟩⟩) hl e hmay with ⟨r, hr'⟩ | ⟨H3, β', C3, k1, k2, k3, k4⟩
                  · rw [hr] at hr'; cases hr'
                  · rw [hHk] at k1
                    obtain rfl := Option.some.inj k1
                    exact ⟨β', C3, k2, k4, .inr k3⟩
            simp only [freeB, Bool.and_eq_true, List.all_eq_true, List.mem_range] at hn3
            obtain ⟨⟨⟨f0, f1⟩, f2⟩, f3⟩ := hn3
            have f0 := Nat.le_of_ble_eq_true f0
            have f2 := Nat.le_of_ble_eq_true f2
            have loud : ∀ i, i < ops.size → loudB orc ops i = true → cntL orc ops i < m → (∃ o T, ops[i]? = some o ∧ o.op = .alloc T ∧ o.guard = none ∧ look dec i = none ∧ allocI P T = some (fiA P ops i)) ∧ ∀ j, j < ops.size → Nat.beq j i = true ∨ bitB (masks ops ops.size) j i = true ∨ (match res[j]? with | some α => α.labs | none => []).any (Nat.beq (L0 + 20 * i)) = false := by
              intro i hi hl hc
              have hb : Nat.blt (cntL orc ops i) m = true := by rw [Nat.blt_eq]; exact hc
              have := f3 i hi
              rw [if_pos hl, hb] at this
              simp only [Bool.not_true, Bool.false_or, Bool.and_eq_true, List.all_eq_true, List.mem_range, Bool.or_eq_true, Bool.not_eq_true'] at this
              refine ⟨?_, fun j hj => ?_⟩
              · have h5 := this.1
                split at h5
                · rename_i o ho
                  split at h5
                  · rename_i T hop
                    simp only [Bool.and_eq_true, Option.isSome_iff_exists, Option.isNone_iff_eq_none] at h5
                    obtain ⟨⟨⟨it, hit⟩, hg⟩, hd⟩ := h5
                    refine ⟨o, T, ho, hop, hg, hd, ?_⟩
                    simp [fiA, ho, hop, hit]
                  · cases h5
                · cases h5
              · rcases this.2 j hj with (h | h) | h
                · exact .inl h
                · exact .inr (.inl h)
                · exact .inr (.inr h)
            have frees : ∀ i, i < ops.size → loudB orc ops i = true → cntL orc ops i < m → ∃ H1, Hs[cntL orc ops i]? = some H1 ∧ Hs[cntL orc ops i + 1]? = some ((L0 + 20 * i, fiA P ops i) :: H1) ∧ res[i]? = some (.ptr (L0 + 20 * i) [] 0) := by
              intro i hi hl hc
              obtain ⟨⟨o, T, q1, q2, q3, q4, q5⟩, _⟩ := loud i hi hl hc
              obtain ⟨β, H1, H2, C', k1, k2, k3, k4, _⟩ := m4 i hi hl
              obtain ⟨rfl, rfl⟩ := alloc_loud q1 q2 q3 q4 q5 k4
              exact ⟨H1, k2, k3, k1⟩
            have pre : ∀ q, q ≤ m → ∃ l : List Nat, Hs[q]? = some (gotten L0 (fiA P ops) l H) ∧ l.Nodup ∧ ∀ j, j ∈ l ↔ j < ops.size ∧ loudB orc ops j = true ∧ cntL orc ops j < q := by
              intro q
              induction q with
              | zero => exact fun _ => ⟨[], m3, List.nodup_nil, fun j => ⟨fun h => (by cases h), fun ⟨_, _, h⟩ => (by omega)⟩⟩
              | succ q ihq =>
                intro hq
                obtain ⟨l, l1, l2, l3⟩ := ihq (by omega)
                obtain ⟨j, j1, j2, j3⟩ := cntL_ex (orc := orc) (ops := ops) (i := ops.size) (c := q) (by omega)
                obtain ⟨H1, k1, k2, _⟩ := frees j j1 j2 (by omega)
                rw [j3] at k1 k2
                rw [l1] at k1
                obtain rfl := Option.some.inj k1
                refine ⟨j :: l, k2, List.nodup_cons.2 ⟨fun h => by have := ((l3 j).1 h).2.2; omega, l2⟩, fun x => ?_⟩
                rw [List.mem_cons, l3]
                refine ⟨fun h => ?_, fun ⟨x1, x2, x3⟩ => ?_⟩
                · rcases h with rfl | ⟨x1, x2, x3⟩
                  · exact ⟨j1, j2, by omega⟩
                  · exact ⟨x1, x2, by omega⟩
                · rcases Nat.lt_or_ge (cntL orc ops x) q with h | h
                  · exact .inr ⟨x1, x2, h⟩
                  · exact .inl (cntL_inj x2 j2 (by omega))
            obtain ⟨lm, l1, l2, l3⟩ := pre m (Nat.le_refl _)
            have fr : Free P orc dec m L0 ops ρ H res (fiA P ops) := by
              refine ⟨ltB_mem f1, fun i hi hl hc => ?_, fun i j α hi hj hl hc hα => ?_, fun i hi hl => ?_⟩
              · obtain ⟨⟨o, T, q1, q2, q3, q4, q5⟩, _⟩ := loud i hi hl hc
                obtain ⟨H1, _, _, k3⟩ := frees i hi hl hc
                exact ⟨k3, o, T, q1, q2, q3, q5⟩
              · rcases (loud i hi hl hc).2 j hj with h | h | h
                · exact .inl (Nat.eq_of_beq_eq_true h)
                · exact .inr (.inl h)
                · rw [hα] at h
                  refine .inr (.inr fun hm => ?_)
                  rw [List.any_eq_false] at h
                  exact h _ hm (by simp)
              · have := f3 i hi
                rw [if_neg (by rw [hl]; decide)] at this
                simp only [Bool.or_eq_true, List.all_eq_true, List.mem_range, Bool.not_eq_true'] at this
                obtain ⟨β, H1, C', q1, q2, q3, q4⟩ := m5 i hi hl
                rcases this with (h | h) | h
                · refine .inl fun f g1 g2 g3 => ?_
                  rcases h f g1 with (h | h) | h
                  · rw [g2] at h; cases h
                  · exfalso
                    have : Nat.blt (cntL orc ops f) m = true := by rw [Nat.blt_eq]; exact g3
                    rw [this] at h; cases h
                  · exact h
                · have h := Nat.eq_of_beq_eq_true h
                  rw [h, m3] at q2
                  obtain rfl := Option.some.inj q2
                  unfold quietAt at q3
                  split at q3
                  · rename_i r hr
                    simp only [Option.some.injEq] at q3
                    subst q3
                    exact .inr ⟨β, C', q1, q4, .inl hr⟩
                  · exact .inr ⟨β, C', q1, q4, .inr q3⟩
                · obtain ⟨r, hr⟩ := Option.isSome_iff_exists.1 h
                  unfold quietAt at q3
                  rw [hr] at q3
                  simp only [Option.some.injEq] at q3
                  subst q3
                  exact .inr ⟨β, C', q1, q4, .inl hr⟩
            intro a w g1 g2 g3
            refine wp_region_any hm ?_
            have all := all_any rfl m1 ok m4 quiet hHn (fun a w k1 k2 k3 => hr a w (k1.trim h3 h4 hn1) k2 k3)
            obtain ⟨M, φ, ξ, q1, q2⟩ := g1
            have init0 : ∀ i, i ∈ ([] : List Nat) ↔ (i < ops.size ∧ (Array.replicate ops.size false).getD i false = true) := fun i => by simp [Array.getD]
            by_cases hm0 : ∃ f, f < ops.size ∧ loudB orc ops f = true ∧ cntL orc ops f < m ∧ f ∉ ([] : List Nat)
            · refine free_any f0 rfl m1 ok fr (fun fuel listed ord a w e inv => all fuel listed ord m a w e (Nat.le_refl _) f2 inv) l1 rfl l2 l3 _ _ [] a _ (by simp) hm0 ⟨by simp, List.nodup_nil, init0, fun i hi => (by cases hi), fun i hi => (by cases hi), g2, g3, M, φ, ξ, q1.draws 1, fun t α ht _ => q2 t α ht, fun i hi => (by cases hi)⟩
            · have hz : m = 0 := by
                rcases Nat.eq_zero_or_pos m with h | h
                · exact h
                · exfalso
                  obtain ⟨j, j1, j2, j3⟩ := cntL_ex (orc := orc) (ops := ops) (i := ops.size) (c := 0) (by omega)
                  exact hm0 ⟨j, j1, j2, by omega, by simp⟩
              refine all _ _ [] 0 a _ (by simp) (by omega) (Nat.zero_le _) ⟨by simp, List.nodup_nil, init0, fun i hi => (by cases hi), fun j _ _ => ⟨fun h => (by cases h), fun h => (by omega)⟩, g2, g3, M, φ, ξ, _, m3, q1.draws 1, fun t α ht _ => q2 t α ht, fun i hi => (by cases hi)⟩
          · cases h
    · cases h
end
end Go.Proofs.YtlhbekiplnmolaaDoor
