/- The machine's side, told once: maps, their keys found. -/
import Derived.Test.YtlhbekiplnmolaaDoorE9
import Derived.DeepKeys3
import Derived.WideKeyRuns
set_option linter.unusedVariables false
set_option linter.unusedSimpArgs false
namespace Go.Proofs.YtlhbekiplnmolaaDoor
open Go.RowKit

def findM {α : Type} (k : Sh) (key : k.ty) : List (k.ty × α) → Nat → Option (Nat × α)
  | [], _ => none
  | y :: ys, i => if k.eqb key y.1 then some (i, y.2) else findM k key ys (i + 1)
def getM {α : Type} (k : Sh) (key : k.ty) (d : α) (l : List (k.ty × α)) : α := match findM k key l 0 with
  | some r => r.2
  | none => d
def hasM {α : Type} (k : Sh) (key : k.ty) (l : List (k.ty × α)) : Bool := (findM k key l 0).isSome
/-- A type's zero value, one cell. -/
def zeroD (P : Program) (e : TypeId) (v : Sh) : Option v.ty := match P.info? e with
  | some i => match i.zero with
    | some z => match z with
      | .agg _ => none
      | z => if v.agg then none else match dec v [z] with
        | some (d, []) => some d
        | _ => none
    | none => none
  | none => none
def mapB (P : Program) (T : TypeId) : Option (TypeId × TypeId) := match P.underlying T with
  | some (.map k e) => some (k, e)
  | _ => none
def lkA (P : Program) (H : AStore) (T : TypeId) (ck : Bool) : AVal → AVal → PR
  | .row L, .v k' key => match look H L with
    | some (.mp _ k v x) => if h : k' = k then match mapB P T with
      | some (kt, et) => if eqTB P kt k then match zeroD P et v with
        | some d => match ck with
          | true => some (.tup [.v v (getM k (h ▸ key) d x), .v .bool (hasM k (h ▸ key) x)], [])
          | false => some (.v v (getM k (h ▸ key) d x), [])
        | none => none
        else none
      | none => none
      else none
    | _ => none
  | _, _ => none

section
variable {P : Program} {n0 : Nat} {b : Base n0} {M : Fz} {φ : Nat → Value} {ξ : Nat → Option Nat} {H : AStore} {w : World} {ρ : AEnv}

theorem mapB_ok {T k e : TypeId} (h : mapB P T = some (k, e)) : P.underlying T = some (.map k e) := by
  unfold mapB at h
  split at h
  · rename_i k' e' hu
    simp only [Option.some.injEq, Prod.mk.injEq] at h
    obtain ⟨rfl, rfl⟩ := h
    exact hu
  · cases h
theorem zeroD_ok {e : TypeId} {v : Sh} {d : v.ty} (h : zeroD P e v = some d) (w : World) : ∃ z, (zeroValue e).run P w = .ok z w ∧ ∃ cs, z = mkV v cs ∧ RepC P φ v M cs d := by
  unfold zeroD at h
  split at h
  · rename_i i hi
    split at h
    · rename_i z hz
      split at h
      · cases h
      · split at h
        · cases h
        · rename_i ha
          split at h
          · rename_i d' hd
            simp only [Option.some.injEq] at h
            subst h
            obtain ⟨c, hc, hr⟩ := dec_ok (P := P) (φ := φ) (M := M) hd
            rw [List.append_nil] at hc
            refine ⟨z, by simp [zeroValue, typeInfo, hi, hz], c, ?_, hr⟩
            rw [← hc]
            simp [mkV, ha]
          · cases h
    · cases h
  · cases h
theorem key_forms {kt : TypeId} {k : Sh} (hT : eqTB P kt k = true) {c : List Value} {x : k.ty} (hr : RepC P φ k M c x) : (mkV k c).formed P kt = true ∧ fits k.lks (mkV k c).cells.toList = some (k.lits x) ∧ mkV k c = .agg c.toArray := by
  simp only [eqTB, Bool.and_eq_true, Bool.not_eq_true', decide_eq_true_eq] at hT
  obtain ⟨⟨⟨⟨⟨⟨h1, h2⟩, h3⟩, h4⟩, h5⟩, h6⟩, h7⟩ := hT
  have e1 : mkV k c = .agg c.toArray := by simp [mkV, h2]
  rw [e1]
  exact ⟨formed_of h7 (rep_len h3 hr), by simpa [Value.cells] using rep_fits h1 hr, rfl⟩
theorem run_equalK {kt : TypeId} {k : Sh} (hT : eqTB P kt k = true) {c1 c2 : List Value} {x y : k.ty} (hr : RepC P φ k M c1 x) (hs : RepC P φ k M c2 y) (w : World) : (Op.equal kt (mkV k c1) (mkV k c2)).run P w = .ok (k.eqb x y) w := by
  obtain ⟨f1, g1, _⟩ := key_forms hT hr
  obtain ⟨f2, g2, _⟩ := key_forms hT hs
  simp only [eqTB, Bool.and_eq_true, Bool.not_eq_true', decide_eq_true_eq] at hT
  obtain ⟨⟨⟨⟨⟨⟨h1, h2⟩, h3⟩, h4⟩, h5⟩, h6⟩, h7⟩ := hT
  exact run_equal_flat (P := P) (m := 20) (d := 20) h5 (by decide) h6 f1 f2 g1 g2 (by rw [eqb_iff h1, lits_inj h1 hr hs]) w
theorem run_checkK {kt : TypeId} {k : Sh} (hT : eqTB P kt k = true) {c : List Value} {x : k.ty} (hr : RepC P φ k M c x) (em : Bool) (w : World) : (Instr.checkKey em 10000 kt (mkV k c)).run P w = .ok () w := by
  obtain ⟨f1, g1, _⟩ := key_forms hT hr
  simp only [eqTB, Bool.and_eq_true, Bool.not_eq_true', decide_eq_true_eq] at hT
  obtain ⟨⟨⟨⟨⟨⟨h1, h2⟩, h3⟩, h4⟩, h5⟩, h6⟩, h7⟩ := hT
  exact run_checkKey_deep em 9980 20 kt h5 w 20 _ _ f1 (keyLits_flat 20 kt _ _ _ h6 g1)
theorem run_findA {kt : TypeId} {k v : Sh} (hT : eqTB P kt k = true) {c : List Value} {key : k.ty} (hr : RepC P φ k M c key) : ∀ {es : List MapEntry} {ys : List (k.ty × v.ty)} {n i : Nat}, RepM P φ M k v es ys n →
    ∃ r, (Instr.findAsking kt (mkV k c) es i).run P w = .ok r w ∧ ((r = none ∧ findM k key ys i = none) ∨ ∃ j u x, r = some (j, u) ∧ findM k key ys i = some (j, x) ∧ ∃ cv, u = mkV v cv ∧ RepC P φ v M cv x)
  | [], [], _, i, _ => ⟨none, rfl, .inl ⟨rfl, rfl⟩⟩
  | e :: es, y :: ys, n, i, ⟨⟨ck, cv, h1, h2, h3, h4, _⟩, h6⟩ => by
    have he := run_equalK hT hr h2 w
    rw [← h1] at he
    cases hq : k.eqb key y.1 with
    | true =>
      rw [hq] at he
      refine ⟨some (i, e.val), by simp [Instr.findAsking, he], .inr ⟨i, e.val, y.2, rfl, by simp [findM, hq], cv, h3, h4⟩⟩
    | false =>
      rw [hq] at he
      obtain ⟨r, g1, g2⟩ := run_findA (i := i + 1) hT hr h6
      refine ⟨r, by simp [Instr.findAsking, he, g1], ?_⟩
      simpa [findM, hq] using g2
  | [], _ :: _, _, _, h => h.elim
  | _ :: _, [], _, _, h => h.elim
theorem run_findK {kt : TypeId} {k v : Sh} (hT : eqTB P kt k = true) {c : List Value} {key : k.ty} (hr : RepC P φ k M c key) {es : List MapEntry} {ys : List (k.ty × v.ty)} {n : Nat} (h : RepM P φ M k v es ys n) :
    ∃ r, (Instr.findKey kt (mkV k c) es).run P w = .ok r w ∧ ((r = none ∧ findM k key ys 0 = none) ∨ ∃ j u x, r = some (j, u) ∧ findM k key ys 0 = some (j, x) ∧ ∃ cv, u = mkV v cv ∧ RepC P φ v M cv x) := by
  obtain ⟨r, h1, h2⟩ := run_findA (w := w) (i := 0) hT hr h
  refine ⟨r, ?_, h2⟩
  rw [run_findKey_eq w _ (mkV k c) es]
  · exact h1
  · simp only [eqTB, Bool.and_eq_true] at hT
    have := hT.2
    split at this <;> simp_all

theorem lkA_ok (hc : Core P b M φ ξ H w) {T : TypeId} {ck : Bool} {α κ β : AVal} {C : List Prop} {u q : Value} (h : lkA P H T ck α κ = some (β, C)) (hu : RelV P M φ α u) (hq : RelV P M φ κ q) : ∃ r, (Instr.lookup T u q ck).run P w = .ok r w ∧ RelV P M φ β r := by
  unfold lkA at h
  split at h
  · rename_i L k' key
    split at h
    · rename_i T' k v x hl
      split at h
      · rename_i hk
        subst hk
        split at h
        · rename_i kt et hm
          split at h
          · rename_i hT
            split at h
            · rename_i d hd
              obtain ⟨rfl, _⟩ := hu
              obtain ⟨_, c, rfl, hr⟩ := hq
              obtain ⟨⟨p1, p2, p3, p4⟩, g, es, g1, g2, g3, g4⟩ := hc.items L _ (look_mem hl)
              obtain ⟨z, z1, cz, z2, z3⟩ := zeroD_ok (P := P) (φ := φ) (M := M) hd w
              obtain ⟨r, f1, f2⟩ := run_findK (w := w) hT hr g4
              have hck := run_checkK hT hr es.isEmpty w
              have val : ∃ vv ok, (Instr.lookup T (φ L) (mkV k' c) ck).run P w = .ok (if ck then .tuple #[vv, .bool ok] else vv) w ∧ RelV P M φ (.v v (getM k' key d x)) vv ∧ ok = hasM k' key x := by
                have hobj : (getObj g).run P w = .ok (.map es es.size) w := by simp [getObj, Sem.run, g3]
                rcases f2 with ⟨rfl, f3⟩ | ⟨j, uu, xx, rfl, f3, cv, f4, f5⟩
                · refine ⟨z, false, ?_, ?_, by rw [hasM, f3]; rfl⟩
                  · rw [g1]
                    simp [Instr.lookup, run_underlying (mapB_ok hm), hobj, hck, f1, z1]
                  · rw [getM, f3]; exact ⟨p2, cz, z2, z3⟩
                · refine ⟨uu, true, ?_, ?_, by rw [hasM, f3]; rfl⟩
                  · rw [g1]
                    simp [Instr.lookup, run_underlying (mapB_ok hm), hobj, hck, f1]
                  · rw [getM, f3]; exact ⟨p2, cv, f4, f5⟩
              obtain ⟨vv, ok, v1, v2, v3⟩ := val
              refine ⟨_, v1, ?_⟩
              cases ck with
              | true =>
                simp only [Option.some.injEq, Prod.mk.injEq] at h
                obtain ⟨rfl, rfl⟩ := h
                exact ⟨[vv, .bool ok], rfl, vv, _, rfl, v2, _, _, rfl, ⟨rfl, [.bool ok], rfl, by rw [v3]; rfl⟩, rfl⟩
              | false =>
                simp only [Option.some.injEq, Prod.mk.injEq] at h
                obtain ⟨rfl, rfl⟩ := h
                exact v2
            · cases h
          · cases h
        · cases h
      · cases h
    · cases h
  · cases h
end
end Go.Proofs.YtlhbekiplnmolaaDoor
