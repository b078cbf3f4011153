/- The machine's side, told once: maps of pointers to variables. -/
import Derived.Test.YtlhbekiplnmolaaDoorEBm
set_option linter.unusedVariables false
set_option linter.unusedSimpArgs false
namespace Go.Proofs.YtlhbekiplnmolaaDoor
open Go.RowKit

def zeroNil (P : Program) (et : TypeId) : Bool := match P.info? et with
  | some i => match i.zero with
    | some (.pointer none) => true
    | _ => false
  | none => false
/-- What a key of a map of pointers leads to, as it is said to. -/
def lkR (P : Program) (H : AStore) (T : TypeId) : AVal → AVal → AVal → Option (List Prop)
  | .row L, .v k' key, β => match look H L with
    | some (.mp _ k .ref x) => if h : k' = k then match mapB P T with
      | some (kt, et) => if eqTB P kt k && zeroNil P et then match β with
        | .nilp => some [findM k (h ▸ key) x 0 = none]
        | .ptr N [] 0 => match look H N with
          | some (.var _ _ _) => some [∃ j, findM k (h ▸ key) x 0 = some (j, N)]
          | _ => none
        | _ => none
        else none
      | none => none
      else none
    | _ => none
  | _, _, _ => none

def mupR (P : Program) (H : AStore) (T : TypeId) : AVal → AVal → AVal → Option AStore
  | .row L, .v k' key, .ptr N [] 0 => match look H L, look H N with
    | some (.mp T' k .ref x), some (.var _ _ _) => if h : k' = k then match mapB P T with
      | some (kt, _) => if eqTB P kt k then some (setL H L (.mp T' k .ref (updM (α := Nat) k (h ▸ key) N x))) else none
      | none => none
      else none
    | _, _ => none
  | _, _, _ => none

section
variable {P : Program} {n0 : Nat} {b : Base n0} {M : Fz} {φ : Nat → Value} {ξ : Nat → Option Nat} {H : AStore} {w : World} {ρ : AEnv}

theorem var_ptr (hc : Core P b M φ ξ H w) {N : Nat} {T : TypeId} {s : Sh} {x : s.ty} (h : look H N = some (.var T s x)) : ∃ g, φ N = .pointer (some ⟨g, 0, none⟩) ∧ RelV P M φ (.ptr N [] 0) (φ N) := by
  obtain ⟨_, g, c, h1, _⟩ := hc.items N _ (look_mem h)
  exact ⟨g, h1, g, by rw [h1]; rfl, h1⟩
theorem lkR_ok (hc : Core P b M φ ξ H w) {T : TypeId} {α κ β : AVal} {C : List Prop} {u q : Value} (h : lkR P H T α κ β = some C) (hC : AllP C) (hu : RelV P M φ α u) (hq : RelV P M φ κ q) : ∃ r, (Instr.lookup T u q false).run P w = .ok r w ∧ RelV P M φ β r := by
  unfold lkR at h
  split at h
  · rename_i β0 L k' key
    split at h
    · rename_i T' k x hl
      split at h
      · rename_i hk
        subst hk
        split at h
        · rename_i kt et hm
          split at h
          · rename_i hh
            simp only [Bool.and_eq_true] at hh
            obtain ⟨hT, hz⟩ := hh
            obtain ⟨rfl, _⟩ := hu
            obtain ⟨_, c, rfl, hr⟩ := hq
            obtain ⟨_, g, es, g1, g2, g3, g4⟩ := hc.items L _ (look_mem hl)
            obtain ⟨r, f1, f2⟩ := run_findK (w := w) hT hr g4
            have hck := run_checkK hT hr es.isEmpty w
            have hobj : (getObj g).run P w = .ok (.map es es.size) w := by simp [getObj, Sem.run, g3]
            have hzv : (zeroValue et).run P w = .ok (.pointer none) w := by
              unfold zeroNil at hz
              split at hz
              · rename_i i hi
                split at hz
                · rename_i hzz
                  simp [zeroValue, typeInfo, hi, hzz]
                · cases hz
              · cases hz
            split at h
            · simp only [Option.some.injEq] at h
              subst h
              have h0 := hC.1
              rcases f2 with ⟨rfl, f3⟩ | ⟨j, uu, xx, rfl, f3, _⟩
              · refine ⟨.pointer none, ?_, rfl⟩
                rw [g1]
                simp [Instr.lookup, run_underlying (mapB_ok hm), hobj, hck, f1, hzv]
              · rw [h0] at f3; cases f3
            · rename_i N
              split at h
              · rename_i T2 s2 x2 hN
                simp only [Option.some.injEq] at h
                subst h
                obtain ⟨⟨j, h0⟩, _⟩ := hC
                rcases f2 with ⟨rfl, f3⟩ | ⟨j', uu, xx, rfl, f3, cv, f4, f5⟩
                · rw [h0] at f3; cases f3
                · rw [h0] at f3
                  simp only [Option.some.injEq, Prod.mk.injEq] at f3
                  obtain ⟨rfl, rfl⟩ := f3
                  obtain ⟨rfl, _⟩ := f5
                  obtain ⟨gN, p1, p2⟩ := var_ptr hc hN
                  refine ⟨φ N, ?_, p2⟩
                  have e : uu = φ N := f4
                  rw [g1]
                  simp [Instr.lookup, run_underlying (mapB_ok hm), hobj, hck, f1, e]
              · cases h
            · cases h
          · cases h
        · cases h
      · cases h
    · cases h
  · cases h

theorem does_mapUpdR {T ty : TypeId} {m q x : Operand} {α κ γ : AVal} {N : Nat} {H' : AStore} {vt : TypeId} {dst pos after guard} (hm : evA P ρ 0 m = some α) (hq : evA P ρ 0 q = some κ) (hx : evA P ρ vt x = some γ) (hb : mupR P H T α κ γ = some H') :
    Does P b ρ H ⟨dst, .mapUpdate T m q x, ty, pos, after, guard⟩ .undef H' N := by
  intro M φ ξ w a hc he
  have hu := evA_ok he hm
  have hv := evA_ok he hq
  have hw := evA_ok he hx
  unfold mupR at hb
  split at hb
  · rename_i L k' key K
    split at hb
    · rename_i T' k xs T2 s2 x2 hl hN
      split at hb
      · rename_i e1
        subst e1
        split at hb
        · rename_i kt et hmb
          split at hb
          · rename_i hT
            simp only [Option.some.injEq] at hb
            subst hb
            obtain ⟨hu1, _⟩ := hu
            obtain ⟨_, ck, hv1, hr⟩ := hv
            obtain ⟨g, p1, g', p2, p3⟩ := var_ptr hc hN
            obtain ⟨g2, q1, q2⟩ := hw
            rw [p1] at q1
            obtain rfl : g = g2 := by simpa [blkOf] using q1
            exact mapUpd_at (v' := .ref) (u := K) (cx := [φ K]) hc he hl hmb hT hu1 hv1 hr (by rw [q2]; exact p1.symm) ⟨rfl, by rw [p1]; rfl⟩
          · cases hb
        · cases hb
      · cases hb
    · cases hb
  · cases hb
end
end Go.Proofs.YtlhbekiplnmolaaDoor
