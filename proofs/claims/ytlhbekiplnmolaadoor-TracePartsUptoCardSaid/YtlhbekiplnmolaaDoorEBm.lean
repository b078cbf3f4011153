/- The machine's side, told once: maps that are made and written. -/
import Derived.Test.YtlhbekiplnmolaaDoorEBf
import Derived.MapKept
set_option linter.unusedVariables false
set_option linter.unusedSimpArgs false
namespace Go.Proofs.YtlhbekiplnmolaaDoor
open Go.RowKit

/-- One entry written; the map's order is that in which keys came. -/
def updM {α : Type} (k : Sh) (key : k.ty) (u : α) (l : List (k.ty × α)) : List (k.ty × α) := match findM k key l 0 with
  | some r => l.set r.1 (key, u)
  | none => l ++ [(key, u)]
def mkmA (P : Program) (n0 : Nat) (ρ : AEnv) (H : AStore) (T : TypeId) (L : Nat) : Option (AVal × AStore) := match mapB P T with
  | some (kt, et) => if eqTB P kt (shOf P false 20 kt) && (shOf P false 20 kt).pers && (shOf P false 20 et).fixed && (shOf P false 20 et).pers && freshB n0 L ρ H then some (.row L, (L, .mp T (shOf P false 20 kt) (shOf P false 20 et) []) :: H) else none
  | none => none
def mupA (P : Program) (H : AStore) (T : TypeId) : AVal → AVal → AVal → Option AStore
  | .row L, .v k' key, .v v' u => match look H L with
    | some (.mp T' k v x) => if h : k' = k then if h2 : v' = v then match mapB P T with
      | some (kt, _) => if eqTB P kt k && Nat.beq T T' then some (setL H L (.mp T' k v (updM k (h ▸ key) (h2 ▸ u) x))) else none
      | none => none
      else none
      else none
    | _ => none
  | _, _, _ => none

/-- The entry of a key, as it is or new; its place. -/
def entM {α : Type} (k : Sh) (key : k.ty) (d : α) (l : List (k.ty × α)) : List (k.ty × α) := match findM k key l 0 with
  | some _ => l
  | none => l ++ [(key, d)]
def entV {α : Type} (k : Sh) (key : k.ty) (d : α) (l : List (k.ty × α)) : α × Int := match findM k key l 0 with
  | some r => (r.2, ((r.1 : Nat) : Int))
  | none => (d, ((l.length : Nat) : Int))
def estM {κ α : Type} (s : Int) (u : α) (l : List (κ × α)) : List (κ × α) := match l[s.toNat]? with
  | some y => l.set s.toNat (y.1, u)
  | none => l
def menA (P : Program) (H : AStore) (T : TypeId) : AVal → AVal → Option (AVal × AStore × List Prop)
  | .row L, .v k' key => match look H L with
    | some (.mp T' k v x) => if h : k' = k then match mapB P T with
      | some (kt, et) => if eqTB P kt k && Nat.beq T T' then match zeroD P et v with
        | some d => some (.tup [.v v (entV k (h ▸ key) d x).1, .v (.int .i64) (entV k (h ▸ key) d x).2], setL H L (.mp T' k v (entM k (h ▸ key) d x)), [List.length x ≤ maxLen])
        | none => none
        else none
      | none => none
      else none
    | _ => none
  | _, _ => none
def mstA (H : AStore) (T : TypeId) : AVal → AVal → AVal → Option (AStore × List Prop)
  | .row L, .v (.int .i64) s, .v v' u => match look H L with
    | some (.mp T' k v x) => if h : v' = v then if Nat.beq T T' then some (setL H L (.mp T' k v (estM s (h ▸ u) x)), [(0 : Int) ≤ s ∧ s < ((List.length x : Nat) : Int)]) else none
      else none
    | _ => none
  | _, _, _ => none

section
variable {P : Program} {n0 : Nat} {b : Base n0} {M : Fz} {φ : Nat → Value} {ξ : Nat → Option Nat} {H : AStore} {w : World} {ρ : AEnv}

theorem does_makeMap {T : TypeId} {β : AVal} {L : Nat} {H' : AStore} {dst pos after guard ty} (hb : mkmA P n0 ρ H T L = some (β, H')) : Does P b ρ H ⟨dst, .makeMap T none, ty, pos, after, guard⟩ β H' L := by
  intro M φ ξ w a hc he
  unfold mkmA at hb
  split at hb
  · rename_i kt et hm
    split at hb
    · rename_i hh
      simp only [Bool.and_eq_true] at hh
      obtain ⟨⟨⟨⟨h1, h2⟩, h3⟩, h4⟩, h5⟩ := hh
      simp only [Option.some.injEq, Prod.mk.injEq] at hb
      obtain ⟨rfl, rfl⟩ := hb
      have hf : (shOf P false 20 kt).fixed = true := by simp only [eqTB, Bool.and_eq_true] at h1; exact h1.1.1.1.1.2
      refine ⟨M, upd φ L (.map (some w.heap.size)), upd ξ L (some w.heap.size), w.alloc (.map #[] 0), .map (some w.heap.size), .inl ?_, ?_, he.labs (fresh_env h5 _ _), ⟨Fz.le_refl _, fun l hl => upd_ne (by omega)⟩, by rw [RelV, upd_same]; exact ⟨rfl, rfl⟩⟩
      · show (vN (Instr.makeMap T none)).run P w = _
        exact vN_run rfl
      · exact hc.grow h5 rfl rfl rfl ((Below.refl w.heap.size w).alloc (Nat.le_refl _) (.map #[] 0)).size ((Below.refl w.heap.size w).alloc (Nat.le_refl _) (.map #[] 0)).block ⟨⟨hf, h3, h2, .inl h4⟩, w.heap.size, #[], rfl, rfl, heap_alloc_new w _, trivial⟩ (fun g hg => by cases hg; exact Nat.le_refl _)
    · cases hb
  · cases hb

theorem bytes_eq {x y : ByteArray} (h : y.data.toList = x.data.toList) : x = y := ByteArray.ext (Array.ext' h.symm)
theorem bytes_beq (x : ByteArray) : (x == x) = true := by
  first
    | exact beq_self_eq_true x
    | (show (x.data == x.data) = true; exact beq_self_eq_true _)
    | (cases x; simp [BEq.beq])
theorem lit_inj {q : Lk} {u v : Value} {l : Lit} (h1 : q.lit u = some l) (h2 : q.lit v = some l) : u = v ∧ ∀ n, Instr.sameBits n u v = true := by
  cases q <;> cases u <;> simp only [Lk.lit, reduceCtorEq, Option.some.injEq] at h1 <;> cases v <;> simp only [Lk.lit, reduceCtorEq, Option.some.injEq] at h2
  · subst h1
    simp only [Lit.bool.injEq] at h2
    subst h2
    exact ⟨rfl, fun n => by simp [Instr.sameBits]⟩
  · split at h1
    · split at h2
      · rename_i e1 e2
        simp only [Option.some.injEq] at h1 h2
        subst h1
        simp only [Lit.int.injEq] at h2
        obtain ⟨_, rfl⟩ := h2
        obtain ⟨rfl, _⟩ := e1
        obtain ⟨rfl, _⟩ := e2
        exact ⟨rfl, fun n => by simp [Instr.sameBits]⟩
      · cases h2
    · cases h1
  · split at h1
    · split at h2
      · simp only [Option.some.injEq] at h1 h2
        subst h1
        simp only [Lit.string.injEq] at h2
        obtain rfl := bytes_eq h2
        exact ⟨rfl, fun n => by simp only [Instr.sameBits]; exact bytes_beq _⟩
      · cases h2
    · cases h1
theorem fits_same : ∀ {ks : List Lk} {us vs : List Value} {l : List Lit}, fits ks us = some l → fits ks vs = some l → us = vs ∧ ∀ n, ((us.zip vs).all fun (x, y) => Instr.sameBits n x y) = true
  | [], [], [], _, _, _ => ⟨rfl, fun _ => rfl⟩
  | q :: ks, u :: us, v :: vs, l, h1, h2 => by
    simp only [fits, Option.bind_eq_some_iff, Option.map_eq_some_iff] at h1 h2
    obtain ⟨x, a1, r, a2, rfl⟩ := h1
    obtain ⟨y, b1, r', b2, e⟩ := h2
    simp only [List.cons.injEq] at e
    obtain ⟨rfl, rfl⟩ := e
    obtain ⟨rfl, c2⟩ := lit_inj a1 b1
    obtain ⟨rfl, d2⟩ := fits_same a2 b2
    exact ⟨rfl, fun n => by simp only [List.zip_cons_cons, List.all_cons, c2 n, d2 n]; rfl⟩
  | [], _ :: _, _, _, h1, _ => by simp [fits] at h1
  | [], [], _ :: _, _, _, h2 => by simp [fits] at h2
  | _ :: _, [], _, _, h1, _ => by simp [fits] at h1
  | _ :: _, _ :: _, [], _, _, h2 => by simp [fits] at h2
theorem key_same {kt : TypeId} {k : Sh} (hT : eqTB P kt k = true) {c1 c2 : List Value} {x y : k.ty} (hr : RepC P φ k M c1 x) (hs : RepC P φ k M c2 y) (he : k.eqb x y = true) : (Instr.keyThatStays (mkV k c1) (mkV k c2)).run P w = .ok (mkV k c2) w := by
  obtain ⟨_, g1, e1⟩ := key_forms hT hr
  obtain ⟨_, g2, e2⟩ := key_forms hT hs
  have h1 : k.cmpB = true := by simp only [eqTB, Bool.and_eq_true] at hT; exact hT.1.1.1.1.1.1
  have hxy := (eqb_iff h1 x y).1 he
  subst hxy
  have h := fits_same g1 g2
  have hb : Instr.sameBits 10000 (mkV k c1) (mkV k c2) = true := by
    rw [e1, e2] at h ⊢
    simp only [Value.cells] at h
    have hcc : c1 = c2 := h.1
    subst hcc
    have := h.2 9999
    simp only [Instr.sameBits, Bool.and_eq_true, beq_self_eq_true, true_and]
    exact this
  simp [Instr.keyThatStays, hb]

theorem findM_at {α : Type} {k : Sh} {key : k.ty} : ∀ {ys : List (k.ty × α)} {i j : Nat} {x : α}, findM k key ys i = some (j, x) → i ≤ j ∧ ∃ y, ys[j - i]? = some y ∧ k.eqb key y.1 = true ∧ y.2 = x
  | [], i, j, x, h => by simp [findM] at h
  | y :: ys, i, j, x, h => by
    simp only [findM] at h
    split at h
    · rename_i he
      simp only [Option.some.injEq, Prod.mk.injEq] at h
      obtain ⟨rfl, rfl⟩ := h
      exact ⟨Nat.le_refl _, y, by simp, he, rfl⟩
    · obtain ⟨h1, z, h2, h3⟩ := findM_at h
      refine ⟨by omega, z, ?_, h3⟩
      rw [show j - i = (j - (i + 1)) + 1 by omega, List.getElem?_cons_succ]
      exact h2
theorem repM_get {k v : Sh} : ∀ {es : List MapEntry} {ys : List (k.ty × v.ty)} {n j : Nat} {y : k.ty × v.ty}, RepM P φ M k v es ys n → ys[j]? = some y → ∃ e, es[j]? = some e ∧ ∃ ck cv, e.key = mkV k ck ∧ RepC P φ k M ck y.1 ∧ e.val = mkV v cv ∧ RepC P φ v M cv y.2 ∧ e.born = n + j
  | e :: es, y :: ys, n, 0, z, ⟨h1, _⟩, hj => by
    simp only [List.getElem?_cons_zero, Option.some.injEq] at hj
    subst hj
    exact ⟨e, rfl, h1⟩
  | e :: es, y :: ys, n, j + 1, z, ⟨_, h2⟩, hj => by
    rw [List.getElem?_cons_succ] at hj
    obtain ⟨e', g1, ck, cv, g2, g3, g4, g5, g6⟩ := repM_get h2 hj
    exact ⟨e', by rw [List.getElem?_cons_succ]; exact g1, ck, cv, g2, g3, g4, g5, by omega⟩
  | [], [], _, _, _, _, hj => by simp at hj
  | [], _ :: _, _, _, _, h, _ => h.elim
  | _ :: _, [], _, _, _, h, _ => h.elim
theorem repM_set {k v : Sh} {e' : MapEntry} {y' : k.ty × v.ty} : ∀ {es : List MapEntry} {ys : List (k.ty × v.ty)} {n j : Nat}, RepM P φ M k v es ys n → (∃ ck cv, e'.key = mkV k ck ∧ RepC P φ k M ck y'.1 ∧ e'.val = mkV v cv ∧ RepC P φ v M cv y'.2 ∧ e'.born = n + j) → RepM P φ M k v (es.set j e') (ys.set j y') n
  | [], [], _, _, _, _ => trivial
  | e :: es, y :: ys, n, 0, ⟨_, h2⟩, h => ⟨h, h2⟩
  | e :: es, y :: ys, n, j + 1, ⟨h1, h2⟩, ⟨ck, cv, g2, g3, g4, g5, g6⟩ => ⟨h1, repM_set h2 ⟨ck, cv, g2, g3, g4, g5, by omega⟩⟩
  | [], _ :: _, _, _, h, _ => h.elim
  | _ :: _, [], _, _, h, _ => h.elim
theorem repM_push {k v : Sh} {e' : MapEntry} {y' : k.ty × v.ty} : ∀ {es : List MapEntry} {ys : List (k.ty × v.ty)} {n : Nat}, RepM P φ M k v es ys n → (∃ ck cv, e'.key = mkV k ck ∧ RepC P φ k M ck y'.1 ∧ e'.val = mkV v cv ∧ RepC P φ v M cv y'.2 ∧ e'.born = n + es.length) → RepM P φ M k v (es ++ [e']) (ys ++ [y']) n
  | [], [], _, _, h => ⟨h, trivial⟩
  | e :: es, y :: ys, n, ⟨h1, h2⟩, ⟨ck, cv, g2, g3, g4, g5, g6⟩ => ⟨h1, repM_push h2 ⟨ck, cv, g2, g3, g4, g5, by rw [g6, List.length_cons]; omega⟩⟩
  | [], _ :: _, _, h, _ => h.elim
  | _ :: _, [], _, h, _ => h.elim
theorem repM_len {k v : Sh} : ∀ {es : List MapEntry} {ys : List (k.ty × v.ty)} {n : Nat}, RepM P φ M k v es ys n → es.length = ys.length
  | [], [], _, _ => rfl
  | _ :: _, _ :: _, _, ⟨_, h⟩ => by simp [repM_len h]
  | [], _ :: _, _, h => h.elim
  | _ :: _, [], _, h => h.elim
theorem modify_set {es : Array MapEntry} {j : Nat} {e : MapEntry} {f : MapEntry → MapEntry} (h : es.toList[j]? = some e) : (es.modify j f).toList = es.toList.set j (f e) := by
  apply List.ext_getElem?
  intro i
  rw [List.getElem?_set, Array.getElem?_toList, Array.getElem?_modify]
  split
  · rename_i e'
    subst e'
    rw [← Array.getElem?_toList, h]
    have := (List.getElem?_eq_some_iff.1 h).1
    rw [Array.length_toList] at this
    simp [this]
  · simp

theorem mapUpd_at {T ty : TypeId} {m q x : Operand} {N : Nat} {dst pos after guard} {M : Fz} {φ : Nat → Value} {ξ : Nat → Option Nat} {w : World} {a : Act} {L : Nat} {T' kt et : TypeId} {k' v' : Sh} {key : k'.ty} {u : v'.ty} {xs : List (k'.ty × v'.ty)} {ck cx : List Value}
    (hc : Core P b M φ ξ H w) (he : EnvR P M φ ρ a.tmps) (hl : look H L = some (.mp T' k' v' xs)) (hmb : mapB P T = some (kt, et)) (hT : eqTB P kt k' = true) (hu1 : a.eval m = φ L) (hv1 : a.eval q = mkV k' ck) (hr : RepC P φ k' M ck key) (hw1 : a.eval x = mkV v' cx) (hrx : RepC P φ v' M cx u) :
    ∃ M' φ' ξ' w' vv, ((execOp a.eval ⟨dst, .mapUpdate T m q x, ty, pos, after, guard⟩).run P w = .ok (.value vv) w' ∨ (vv = undef ∧ (execOp a.eval ⟨dst, .mapUpdate T m q x, ty, pos, after, guard⟩).run P w = .ok .skip w')) ∧ Core P b M' φ' ξ' (setL H L (.mp T' k' v' (updM k' key u xs))) w' ∧ EnvR P M' φ' ρ a.tmps ∧ Later N M M' φ φ' ∧ RelV P M' φ' .undef vv := by
  obtain ⟨H1, H2, rfl, hset, _⟩ := look_split hl
  rw [hset]
  have hmem : (L, AItem.mp T' k' v' xs) ∈ H1 ++ (L, AItem.mp T' k' v' xs) :: H2 := by simp
  obtain ⟨⟨p1, p2, p3, p4⟩, g, es, g1, g2, g3, g4⟩ := hc.items L _ hmem
  obtain ⟨r, f1, f2⟩ := run_findK (w := w) hT hr g4
  have hck := run_checkK hT hr false w
  have hobj : (getObj g).run P w = .ok (.map es es.size) w := by simp [getObj, Sem.run, g3]
  have fin : ∀ (es' : Array MapEntry), es'.size = es.size ∨ es'.size = es.size + 1 → RepM P φ M k' v' es'.toList (updM k' key u xs) 0 → (Instr.mapUpdate T (φ L) (mkV k' ck) (mkV v' cx)).run P w = .ok () { w with heap := w.heap.setIfInBounds g (.map es' es'.size) } →
      ∃ M' φ' ξ' w' vv, ((execOp a.eval ⟨dst, .mapUpdate T m q x, ty, pos, after, guard⟩).run P w = .ok (.value vv) w' ∨ (vv = undef ∧ (execOp a.eval ⟨dst, .mapUpdate T m q x, ty, pos, after, guard⟩).run P w = .ok .skip w')) ∧ Core P b M' φ' ξ' (H1 ++ (L, AItem.mp T' k' v' (updM k' key u xs)) :: H2) w' ∧ EnvR P M' φ' ρ a.tmps ∧ Later N M M' φ φ' ∧ RelV P M' φ' .undef vv := by
    intro es' _ hrep hrun
    refine ⟨M, φ, ξ, { w with heap := w.heap.setIfInBounds g (.map es' es'.size) }, undef, .inr ⟨rfl, ?_⟩, hc.write g2 rfl rfl rfl (by simp) (fun k hk => (Go.MapKept.heap_set g3).2 k hk) ⟨⟨p1, p2, p3, p4⟩, g, es', g1, g2, (Go.MapKept.heap_set g3).1, hrep⟩, he, ⟨Fz.le_refl _, fun _ _ => rfl⟩, rfl⟩
    have e3 : a.eval m = φ L := hu1
    have e4 : a.eval q = mkV k' ck := hv1
    have e5 : a.eval x = mkV v' cx := hw1
    simp only [execOp, e3, e4, e5, hrun, Sem.run_bind, Sem.run_pure, Result.andThen_ok]
  rcases f2 with ⟨rfl, f3⟩ | ⟨j, uu, xx, rfl, f3, cv, f4, f5⟩
  · refine fin (es.push { key := mkV k' ck, val := mkV v' cx, born := es.size }) (.inr (by simp)) ?_ ?_
    · rw [Array.toList_push, updM, f3]
      exact repM_push g4 ⟨ck, cx, rfl, hr, rfl, hrx, by simp⟩
    · rw [g1]
      have := Go.MapKept.run_setObj_map (P := P) (.map (es.push { key := mkV k' ck, val := mkV v' cx, born := es.size }) (es.size + 1)) g3
      simp [Instr.mapUpdate, run_underlying (mapB_ok hmb), hobj, hck, f1, this]
  · obtain ⟨_, y, y1, y2, y3⟩ := findM_at f3
    rw [Nat.sub_zero] at y1
    obtain ⟨e, z1, ck0, cv0, z2, z3, z4, z5, z6⟩ := repM_get g4 y1
    have hks := key_same (w := w) hT z3 hr (by
      have h1 : k'.cmpB = true := by simp only [eqTB, Bool.and_eq_true] at hT; exact hT.1.1.1.1.1.1
      rw [eqb_iff h1] at y2 ⊢
      exact y2.symm)
    refine fin (es.modify j fun e => { e with key := mkV k' ck, val := mkV v' cx }) (.inl (by simp)) ?_ ?_
    · rw [modify_set z1, updM, f3]
      exact repM_set g4 ⟨ck, cx, rfl, hr, rfl, hrx, z6⟩
    · rw [g1]
      have hz : es[j]? = some e := by rw [← Array.getElem?_toList]; exact z1
      have := Go.MapKept.run_setObj_map (P := P) (.map (es.modify j fun e => { e with key := mkV k' ck, val := mkV v' cx }) es.size) g3
      simp [Instr.mapUpdate, run_underlying (mapB_ok hmb), hobj, hck, f1, hz, z2, hks, this]

theorem does_mapUpdate {T ty : TypeId} {m q x : Operand} {α κ γ : AVal} {N : Nat} {H' : AStore} {vt : TypeId} {dst pos after guard} (hm : evA P ρ 0 m = some α) (hq : evA P ρ 0 q = some κ) (hx : evA P ρ vt x = some γ) (hb : mupA P H T α κ γ = some H') :
    Does P b ρ H ⟨dst, .mapUpdate T m q x, ty, pos, after, guard⟩ .undef H' N := by
  intro M φ ξ w a hc he
  have hu := evA_ok he hm
  have hv := evA_ok he hq
  have hw := evA_ok he hx
  unfold mupA at hb
  split at hb
  · rename_i L k' key v' u
    split at hb
    · rename_i T' k v xs hl
      split at hb
      · rename_i e1
        split at hb
        · rename_i e2
          split at hb
          · rename_i kt et hmb
            split at hb
            · rename_i hh
              subst e1 e2
              simp only [Bool.and_eq_true] at hh
              obtain ⟨hT, hTT⟩ := hh
              simp only [Option.some.injEq] at hb
              subst hb
              obtain ⟨hu1, _⟩ := hu
              obtain ⟨_, ck, hv1, hr⟩ := hv
              obtain ⟨_, cx, hw1, hrx⟩ := hw
              exact mapUpd_at hc he hl hmb hT hu1 hv1 hr hw1 hrx
            · cases hb
          · cases hb
        · cases hb
      · cases hb
    · cases hb
  · cases hb

theorem i64_has {n : Nat} (h : n ≤ maxLen) : IntKind.i64.has ((n : Nat) : Int) := by
  unfold maxLen at h
  simp [IntKind.has, IntKind.min, IntKind.max, IntKind.signed, IntKind.bits]
  omega
theorem does_mapEntry {T ty : TypeId} {m q : Operand} {α κ β : AVal} {N : Nat} {H' : AStore} {C : List Prop} {dst pos after guard} (hm : evA P ρ 0 m = some α) (hq : evA P ρ 0 q = some κ) (hb : menA P H T α κ = some (β, H', C)) (hC : AllP C) :
    Does P b ρ H ⟨dst, .mapEntry T m q, ty, pos, after, guard⟩ β H' N := by
  intro M φ ξ w a hc he
  have hu := evA_ok he hm
  have hv := evA_ok he hq
  unfold menA at hb
  split at hb
  · rename_i L k' key
    split at hb
    · rename_i T' k v xs hl
      split at hb
      · rename_i e1
        split at hb
        · rename_i kt et hmb
          split at hb
          · rename_i hh
            split at hb
            · rename_i d hd
              subst e1
              simp only [Bool.and_eq_true] at hh
              obtain ⟨hT, hTT⟩ := hh
              simp only [Option.some.injEq, Prod.mk.injEq] at hb
              obtain ⟨rfl, rfl, rfl⟩ := hb
              have hlen : xs.length ≤ maxLen := hC.1
              obtain ⟨hu1, _⟩ := hu
              obtain ⟨_, ck, hv1, hr⟩ := hv
              obtain ⟨H1, H2, rfl, hset, _⟩ := look_split hl
              rw [hset]
              have hmem : (L, AItem.mp T' k' v xs) ∈ H1 ++ (L, AItem.mp T' k' v xs) :: H2 := by simp
              obtain ⟨⟨p1, p2, p3, p4⟩, g, es, g1, g2, g3, g4⟩ := hc.items L _ hmem
              have hel := repM_len g4
              rw [Array.length_toList] at hel
              obtain ⟨r, f1, f2⟩ := run_findK (w := w) hT hr g4
              obtain ⟨z, z1, cz, z2, z3⟩ := zeroD_ok (P := P) (φ := φ) (M := M) hd w
              have hck := run_checkK hT hr false w
              have hobj : (getObj g).run P w = .ok (.map es es.size) w := by simp [getObj, Sem.run, g3]
              have fin : ∀ (es' : Array MapEntry) (vv : Value) (n : Nat), RepM P φ M k' v es'.toList (entM k' key d xs) 0 → (Instr.mapEntry T (φ L) (mkV k' ck)).run P w = .ok (.tuple #[vv, goInt n]) { w with heap := w.heap.setIfInBounds g (.map es' es'.size) } → RelV P M φ (.v v (entV k' key d xs).1) vv → (entV k' key d xs).2 = ((n : Nat) : Int) → n ≤ maxLen →
                  ∃ M' φ' ξ' w' vv, ((execOp a.eval ⟨dst, .mapEntry T m q, ty, pos, after, guard⟩).run P w = .ok (.value vv) w' ∨ (vv = undef ∧ (execOp a.eval ⟨dst, .mapEntry T m q, ty, pos, after, guard⟩).run P w = .ok .skip w')) ∧ Core P b M' φ' ξ' (H1 ++ (L, AItem.mp T' k' v (entM k' key d xs)) :: H2) w' ∧ EnvR P M' φ' ρ a.tmps ∧ Later N M M' φ φ' ∧ RelV P M' φ' (.tup [.v v (entV k' key d xs).1, .v (.int .i64) (entV k' key d xs).2]) vv := by
                intro es' vv n hrep hrun hvv hn hn2
                refine ⟨M, φ, ξ, { w with heap := w.heap.setIfInBounds g (.map es' es'.size) }, .tuple #[vv, goInt n], .inl ?_, hc.write g2 rfl rfl rfl (by simp) (fun k hk => (Go.MapKept.heap_set g3).2 k hk) ⟨⟨p1, p2, p3, p4⟩, g, es', g1, g2, (Go.MapKept.heap_set g3).1, hrep⟩, he, ⟨Fz.le_refl _, fun _ _ => rfl⟩, [vv, goInt n], rfl, vv, _, rfl, hvv, _, _, rfl, ⟨rfl, [goInt n], rfl, by rw [hn]; rfl, by rw [hn]; exact i64_has hn2⟩, rfl⟩
                have e3 : a.eval m = φ L := hu1
                have e4 : a.eval q = mkV k' ck := hv1
                show (vN (Instr.mapEntry T (a.eval m) (a.eval q))).run P w = _
                rw [e3, e4]
                exact vN_run hrun
              rcases f2 with ⟨rfl, f3⟩ | ⟨j, uu, xx, rfl, f3, cv, f4, f5⟩
              · refine fin (es.push { key := mkV k' ck, val := z, born := es.size }) z es.size ?_ ?_ ?_ ?_ (by omega)
                · rw [Array.toList_push, entM, f3]
                  exact repM_push g4 ⟨ck, cz, rfl, hr, z2, z3, by simp⟩
                · rw [g1]
                  have := Go.MapKept.run_setObj_map (P := P) (.map (es.push { key := mkV k' ck, val := z, born := es.size }) (es.size + 1)) g3
                  simp [Instr.mapEntry, run_underlying (mapB_ok hmb), hobj, hck, f1, z1, this]
                · rw [entV, f3]; exact ⟨p2, cz, z2, z3⟩
                · rw [entV, f3, hel]
              · obtain ⟨_, y, y1, y2, y3⟩ := findM_at f3
                rw [Nat.sub_zero] at y1
                obtain ⟨e, q1, ck0, cv0, q2, q3, q4, q5, q6⟩ := repM_get g4 y1
                have h1 : k'.cmpB = true := by simp only [eqTB, Bool.and_eq_true] at hT; exact hT.1.1.1.1.1.1
                have hky : key = y.1 := (eqb_iff h1 _ _).1 y2
                have hks := key_same (w := w) hT q3 hr (by rw [eqb_iff h1]; exact hky.symm)
                have hj := (List.getElem?_eq_some_iff.1 y1).1
                refine fin (es.modify j fun e => { e with key := mkV k' ck }) uu j ?_ ?_ ?_ ?_ (by omega)
                · rw [modify_set q1, entM, f3]
                  have := repM_set (j := j) (y' := y) (e' := { e with key := mkV k' ck }) g4 ⟨ck, cv0, rfl, hky ▸ hr, q4, q5, q6⟩
                  have hself : xs.set j y = xs := by
                    apply List.ext_getElem?
                    intro i
                    rw [List.getElem?_set]
                    split
                    · rename_i e'; subst e'; rw [y1] <;> simp [hj]
                    · rfl
                  rw [hself] at this
                  exact this
                · rw [g1]
                  have hz : es[j]? = some e := by rw [← Array.getElem?_toList]; exact q1
                  have := Go.MapKept.run_setObj_map (P := P) (.map (es.modify j fun e => { e with key := mkV k' ck }) es.size) g3
                  have hb : e.born = j := by omega
                  simp [Instr.mapEntry, run_underlying (mapB_ok hmb), hobj, hck, f1, hz, q2, hks, this, hb]
                · rw [entV, f3]; exact ⟨p2, cv, f4, f5⟩
                · rw [entV, f3]
            · cases hb
          · cases hb
        · cases hb
      · cases hb
    · cases hb
  · cases hb

theorem findIdx_born {P : Program} {φ : Nat → Value} {M : Fz} {k v : Sh} {p : Nat → Bool} {j : Nat} (hp : ∀ i, p i = true ↔ i = j) : ∀ {es : List MapEntry} {ys : List (k.ty × v.ty)} {n : Nat}, RepM P φ M k v es ys n → n ≤ j → j < n + es.length → es.findIdx? (fun e => p e.born) = some (j - n)
  | [], _, n, _, h1, h2 => by simp at h2; omega
  | e :: es, y :: ys, n, ⟨⟨_, _, _, _, _, _, hb⟩, h⟩, h1, h2 => by
    rw [List.findIdx?_cons, hb]
    by_cases e0 : n = j
    · subst e0
      simp [(hp n).2 rfl]
    · have : p n = false := by
        rw [Bool.eq_false_iff]
        intro h
        exact e0 ((hp n).1 h)
      rw [this, findIdx_born hp h (by omega) (by rw [List.length_cons] at h2; omega)]
      simp
      omega
  | _ :: _, [], _, h, _, _ => h.elim

theorem does_entryStore {T ty : TypeId} {m q x : Operand} {α κ γ : AVal} {N : Nat} {H' : AStore} {C : List Prop} {vt : TypeId} {dst pos after guard} (hm : evA P ρ 0 m = some α) (hq : evA P ρ 0 q = some κ) (hx : evA P ρ vt x = some γ) (hb : mstA H T α κ γ = some (H', C)) (hC : AllP C) :
    Does P b ρ H ⟨dst, .entryStore T m q x, ty, pos, after, guard⟩ .undef H' N := by
  intro M φ ξ w a hc he
  have hu := evA_ok he hm
  have hv := evA_ok he hq
  have hw := evA_ok he hx
  unfold mstA at hb
  split at hb
  · rename_i L s v' u
    obtain ⟨s', hs'⟩ : ∃ s' : Int, s' = s := ⟨s, rfl⟩
    subst hs'
    split at hb
    · rename_i T' k v xs hl
      split at hb
      · rename_i e1
        split at hb
        · subst e1
          simp only [Option.some.injEq, Prod.mk.injEq] at hb
          obtain ⟨rfl, rfl⟩ := hb
          obtain ⟨⟨s1, s2⟩, _⟩ := hC
          obtain ⟨hu1, _⟩ := hu
          obtain ⟨_, cs, hv1, rfl, hk⟩ := hv
          obtain ⟨_, cx, hw1, hrx⟩ := hw
          obtain ⟨H1, H2, rfl, hset, _⟩ := look_split hl
          rw [hset]
          have hmem : (L, AItem.mp T' k v' xs) ∈ H1 ++ (L, AItem.mp T' k v' xs) :: H2 := by simp
          obtain ⟨⟨p1, p2, p3, p4⟩, g, es, g1, g2, g3, g4⟩ := hc.items L _ hmem
          have hel := repM_len g4
          rw [Array.length_toList] at hel
          have s1' : (0 : Int) ≤ s' := s1
          have s2' : s' < ((xs.length : Nat) : Int) := s2
          have hj : s'.toNat < xs.length := by clear s1 s2; omega
          have hsj : s' = ((s'.toNat : Nat) : Int) := by clear s1 s2; omega
          obtain ⟨y, hy⟩ : ∃ y, xs[s'.toNat]? = some y := ⟨xs[s'.toNat], List.getElem?_eq_getElem hj⟩
          obtain ⟨e, q1, ck0, cv0, q2, q3, q4, q5, q6⟩ := repM_get g4 hy
          have hobj : (getObj g).run P w = .ok (.map es es.size) w := by simp [getObj, Sem.run, g3]
          have hidx : es.findIdx? (fun e => (e.born : Int) == s') = some s'.toNat := by
            rw [show es = es.toList.toArray by simp, List.findIdx?_toArray]
            have := findIdx_born (p := fun i => ((i : Nat) : Int) == s') (j := s'.toNat) (fun i => by simp; omega) g4 (Nat.zero_le _) (by rw [Array.length_toList]; omega)
            simpa using this
          refine ⟨M, φ, ξ, { w with heap := w.heap.setIfInBounds g (.map (es.modify s'.toNat fun e => { e with val := mkV v' cx }) (es.modify s'.toNat fun e => { e with val := mkV v' cx }).size) }, undef, .inr ⟨rfl, ?_⟩, hc.write g2 rfl rfl rfl (by simp) (fun k hk => (Go.MapKept.heap_set g3).2 k hk) ⟨⟨p1, p2, p3, p4⟩, g, _, g1, g2, (Go.MapKept.heap_set g3).1, ?_⟩, he, ⟨Fz.le_refl _, fun _ _ => rfl⟩, rfl⟩
          · have e3 : a.eval m = .map (some g) := hu1.trans g1
            have e4 : a.eval q = .int .i64 s' := hv1
            have e5 : a.eval x = mkV v' cx := hw1
            have := Go.MapKept.run_setObj_map (P := P) (.map (es.modify s'.toNat fun e => { e with val := mkV v' cx }) es.size) g3
            simp [execOp, e3, e4, e5, Instr.entryStore, hobj, asInt, asIntOf, hidx, this]
          · rw [modify_set q1, estM, hy]
            exact repM_set g4 ⟨ck0, cx, q2, q3, rfl, hrx, q6⟩
        · cases hb
      · cases hb
    · cases hb
  · cases hb

theorem findM_app {α : Type} {k : Sh} {key : k.ty} {d : α} : ∀ {l : List (k.ty × α)} {i : Nat}, findM k key l i = none → ∀ r, findM k key (l ++ [(key, d)]) i = some r → r.2 = d
  | [], i, _, r, h => by
    simp only [List.nil_append, findM] at h
    split at h
    · simp only [Option.some.injEq] at h; subst h; rfl
    · cases h
  | y :: l, i, h0, r, h => by
    simp only [findM] at h0
    simp only [List.cons_append, findM] at h
    split at h0
    · cases h0
    · rename_i e
      rw [if_neg e] at h
      exact findM_app h0 r h
theorem getM_ent {α : Type} (k : Sh) (key : k.ty) (d : α) (l : List (k.ty × α)) : getM k key d (entM k key d l) = getM k key d l := by
  unfold entM
  cases h : findM k key l 0 with
  | some r => rfl
  | none =>
    simp only [getM, h]
    cases h2 : findM k key (l ++ [(key, d)]) 0 with
    | none => rfl
    | some r => exact findM_app h r h2
end
end Go.Proofs.YtlhbekiplnmolaaDoor
