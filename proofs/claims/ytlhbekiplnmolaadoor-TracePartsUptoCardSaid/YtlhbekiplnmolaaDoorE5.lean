/- The machine's side, told once: places, loads, parts. -/
import Derived.Test.YtlhbekiplnmolaaDoorE4
set_option linter.unusedVariables false
set_option linter.unusedSimpArgs false
namespace Go.Proofs.YtlhbekiplnmolaaDoor
open Go.RowKit

def AllP : List Prop → Prop
  | [] => True
  | p :: l => p ∧ AllP l
theorem AllP.app : ∀ {a b : List Prop}, AllP (a ++ b) → AllP a ∧ AllP b
  | [], b, h => ⟨trivial, h⟩
  | p :: a, b, h => by
    have := AllP.app h.2
    exact ⟨⟨h.1, this.1⟩, this.2⟩

def rowOk : AItem → Path → Bool
  | .row _ _ _, [] => false
  | .mp _ _ _ _, _ => false
  | _, _ => true
def setI : AItem → Path → TV → Option AItem
  | .var T s x, p, u => match setP s x p u with
    | some r => if r.1.fixed = true then some (.var T r.1 r.2) else none
    | none => none
  | .row e s x, p, u => match setP (.lst s) x p u with
    | some ⟨.lst t, y⟩ => if h : t = s then some (.row e s (h ▸ y)) else none
    | _ => none
  | .mp _ _ _ _, _, _ => none

section
variable {P : Program} {n0 : Nat} {b : Base n0} {M : Fz} {φ : Nat → Value} {ξ : Nat → Option Nat} {H : AStore} {w : World} {ρ : AEnv}

theorem lst_path {s : Sh} {x : List s.ty} {p : Path} {v : TV} (hp : p ≠ []) (hk : okP (.lst s) x p) : ∃ k q, p = .i k :: q ∧ k < x.length := by
  cases p with
  | nil => exact absurd rfl hp
  | cons t q => cases t <;> simp only [okP] at hk; exact ⟨_, _, rfl, hk.1⟩

theorem set_len {s : Sh} {x : List s.ty} {k : Nat} {q : Path} {u : TV} {t : Sh} {y : List t.ty} (h : setP (.lst s) x (.i k :: q) u = some ⟨.lst t, y⟩) : y.length = x.length ∧ t = s := by
  simp only [setP] at h
  split at h
  · split at h
    · simp only [Option.some.injEq, Sigma.mk.injEq, Sh.lst.injEq] at h
      obtain ⟨rfl, h⟩ := h
      have := eq_of_heq h
      subst this
      exact ⟨by simp, rfl⟩
    · cases h
  · cases h

theorem place_ok (hc : Core P b M φ ξ H w) {L : Nat} {it : AItem} (hl : look H L = some it) {p : Path} {v : TV} (hr : rowOk it p = true) (hg : getP it.tv.1 it.tv.2 p = some v) (hk : okP it.tv.1 it.tv.2 p) :
    ∃ g c T pre cs post, blkOf (φ L) = some g ∧ ξ L = some g ∧ w.heap[g]? = some (.cells c T (0, 0)) ∧ c.toList = pre ++ cs ++ post ∧ pre.length = offP it.tv.1 p ∧ RepC P φ v.1 M cs v.2 ∧
      ∀ cs' u it' w', cs'.length = cs.length → RepC P φ u.1 M cs' u.2 → setI it p u = some it' → w'.heap[g]? = some (.cells (pre ++ cs' ++ post).toArray T (0, 0)) → Held P M φ w' (φ L) (ξ L) it' := by
  have hh := hc.items L it (look_mem hl)
  cases it with
  | mp T k v x => simp [rowOk] at hr
  | var T s x =>
    obtain ⟨hf, g, c, h1, h2, h3, h4⟩ := hh
    obtain ⟨pre, cs, post, e1, e2, e3, e4⟩ := rep_get (.inl hf) h4 hg hk
    refine ⟨g, c, T, pre, cs, post, by rw [h1]; rfl, h2, h3, e1, e2, e3, fun cs' u it' w' hlen hu hs hw => ?_⟩
    simp only [setI] at hs
    split at hs
    · rename_i r hr'
      split at hs
      · rename_i hf'
        simp only [Option.some.injEq] at hs
        subst hs
        exact ⟨hf', g, _, h1, h2, hw, by simpa using e4 cs' u r hlen hu hr'⟩
      · cases hs
    · cases hs
  | row e s x =>
    obtain ⟨hf, A, cap, h1, h2⟩ := hh
    have hp : p ≠ [] := by rintro rfl; simp [rowOk] at hr
    obtain ⟨k, q, rfl, hlt⟩ := lst_path (v := v) hp hk
    rcases h2 with ⟨_, rfl, _⟩ | ⟨g, c, h2, h3, h4, h5, h6, h7, h8⟩
    · exact absurd hlt (Nat.not_lt_zero _)
    · obtain ⟨pre, cs, post, e1, e2, e3, e4⟩ := rep_get (s := .lst s) (.inr ⟨s, rfl, hf⟩) h8 hg hk
      have hc' : c.toList = pre ++ cs ++ (post ++ c.toList.drop (x.length * s.size)) := by
        rw [← List.append_assoc, ← e1, List.take_append_drop]
      refine ⟨g, c, e, pre, cs, post ++ c.toList.drop (x.length * s.size), by rw [h1, h3]; rfl, h2, h4, hc', e2, e3, fun cs' u it' w' hlen hu hs hw => ?_⟩
      simp only [setI] at hs
      split at hs
      · rename_i t y hr'
        split at hs
        · rename_i ht
          subst ht
          simp only [Option.some.injEq] at hs
          subst hs
          have hyl := (set_len hr').1
          refine ⟨hf, A, cap, by rw [h1]; simp [hyl], .inr ⟨g, _, h2, h3, hw, by simpa [hyl] using h5, h6, ?_, ?_⟩⟩
          · have l1 := congrArg List.length hc'
            simp only [Array.length_toList, List.length_append] at l1
            simp only [List.size_toArray, List.length_append, hlen]
            omega
          · have := e4 cs' u _ hlen hu hr'
            have l2 := congrArg List.length e1
            simp only [List.length_append, List.length_take, Array.length_toList] at l2
            have l3 : x.length * t.size ≤ c.size := by rw [h7]; exact Nat.mul_le_mul_right _ h5
            have : (pre ++ cs' ++ (post ++ c.toList.drop (x.length * t.size))).take (y.length * t.size) = pre ++ cs' ++ post := by
              rw [← List.append_assoc, List.take_append_of_le_length (by simp only [List.length_append, hlen, hyl]; omega), List.take_of_length_le (by simp only [List.length_append, hlen, hyl]; omega)]
            simp only
            rw [this]
            assumption
        · cases hs
      · cases hs

theorem cell_of {w : World} {g : Nat} {c : Array Value} {T : TypeId} {fr : Nat × Nat} {pre cs post : List Value} (hw : w.heap[g]? = some (.cells c T fr)) (hc : c.toList = pre ++ cs ++ post) : ∀ i v, cs[i]? = some v → w.cell? ⟨g, pre.length + i, none⟩ = some v := by
  intro i v hv
  have hi := (List.getElem?_eq_some_iff.1 hv).1
  have : c[pre.length + i]? = some v := by
    rw [← Array.getElem?_toList, hc, List.append_assoc, List.getElem?_append_right (by omega), List.getElem?_append_left (by omega)]
    simpa using hv
  simp [World.cell?, hw, this]

/-- Load from a block that is known. -/
theorem ld_ptr (hc : Core P b M φ ξ H w) {L : Nat} {it : AItem} (hl : look H L = some it) {p : Path} {off : Nat} {v : TV} {T : TypeId} {u : Value} (hu : RelV P M φ (.ptr L p off) u) (hr : rowOk it p = true) (hg : getP it.tv.1 it.tv.2 p = some v) (hT : okT P T v.1 = true) (ho : offP it.tv.1 p = off) (hk : okP it.tv.1 it.tv.2 p) :
    ∃ x, (Instr.loadAt T u).run P w = .ok x w ∧ RelV P M φ (loaded v) x := by
  obtain ⟨g, c, T', pre, cs, post, h1, _, h3, h4, h5, h6, _⟩ := place_ok hc hl hr hg hk
  obtain ⟨g', h7, rfl⟩ := hu
  obtain rfl := Option.some.inj (h1.symm.trans h7)
  have hf : v.1.fixed = true := by simp only [okT, Bool.and_eq_true] at hT; exact hT.1.2
  have := run_loadAt (P := P) hT (rep_len hf h6) (cell_of h3 h4)
  rw [h5, ho] at this
  exact ⟨_, this, loaded_ok hf h6⟩

theorem cl_cells {cs : List Value} {g off : Nat} (ho : Over M w) (h : Cl M (some ⟨g, off, none⟩) cs) : ∀ i v, cs[i]? = some v → w.cell? ⟨g, off + i, none⟩ = some v := by
  intro i v hv
  have hi := (List.getElem?_eq_some_iff.1 hv).1
  obtain ⟨g', o', c, e1, e2, e3⟩ := h i hi
  simp only [Option.some.injEq, Addr.mk.injEq, and_true] at e1
  obtain ⟨rfl, rfl⟩ := e1
  obtain ⟨t, fr, e4⟩ := ho _ _ e2
  rw [hv] at e3
  simp [World.cell?, e4, e3]

/-- Load from a frozen place. -/
theorem ld_fp (hc : Core P b M φ ξ H w) {s : Sh} {x : s.ty} {T : TypeId} {u : Value} (hu : RelV P M φ (.fp s x) u) (hT : okT P T s = true) : ∃ y, (Instr.loadAt T u).run P w = .ok y w ∧ RelV P M φ (loaded ⟨s, x⟩) y := by
  obtain ⟨hf, g, off, cs, rfl, h1, h2⟩ := hu
  exact ⟨_, run_loadAt hT (rep_len hf h2) (cl_cells hc.over h1), loaded_ok (v := ⟨s, x⟩) hf h2⟩

/-! ### Parts -/
def fldB (P : Program) (T f : Nat) : Option (Nat × Nat × Nat) := match P.underlying T with
  | some (.struct fs) => match fs[f]? with
    | some F => some (fs.size, F.type, F.offset)
    | none => none
  | _ => none
theorem fldB_ok {T f m ft fo : Nat} (h : fldB P T f = some (m, ft, fo)) : ∃ fs F, P.underlying T = some (.struct fs) ∧ fs[f]? = some F ∧ F.type = ft ∧ F.offset = fo := by
  unfold fldB at h
  split at h
  · rename_i fs hu
    split at h
    · rename_i F hF
      simp only [Option.some.injEq, Prod.mk.injEq] at h
      exact ⟨fs, F, hu, hF, h.2.1, h.2.2⟩
    · cases h
  · cases h

/-- Steps without indices. -/
def noI : Path → Bool
  | [] => true
  | .i _ :: _ => false
  | _ :: p => noI p
theorem okP_noI : ∀ {s : Sh} {x : s.ty} {p : Path} {v : TV}, noI p = true → getP s x p = some v → okP s x p := by
  intro s
  induction s with
  | st s ih =>
    intro x p v hn h
    cases p with
    | nil => simp [okP]
    | cons q p => cases q <;> simp only [getP, reduceCtorEq] at h; exact ih hn h
  | prod a b iha ihb =>
    intro x p v hn h
    cases p with
    | nil => simp [okP]
    | cons q p =>
      cases q <;> simp only [getP, reduceCtorEq] at h
      · exact iha hn h
      · exact ihb hn h
  | arr n s ih =>
    intro x p v hn h
    cases p with
    | nil => simp [okP]
    | cons q p => cases q <;> simp_all [getP, noI]
  | lst s ih =>
    intro x p v hn h
    cases p with
    | nil => simp [okP]
    | cons q p => cases q <;> simp_all [getP, noI]
  | _ =>
    intro x p v hn h
    cases p with
    | nil => simp [okP]
    | cons q p => simp [getP] at h

theorem mkV_cells {s : Sh} {cs : List Value} (hl : cs.length = s.size) (hv : s.isV = true) (h1 : ∀ v ∈ cs, v.oneCell' = true) : (mkV s cs).cells = cs.toArray := by
  unfold mkV
  cases ha : s.agg with
  | true => rfl
  | false =>
    have hs : s.size = 1 := by cases s <;> first | rfl | (simp [Sh.isV] at hv; done) | (simp [Sh.agg] at ha; done)
    match cs, hl with
    | [v], _ =>
      have := h1 v (List.mem_singleton.2 rfl)
      cases v <;> first | rfl | (simp [Value.oneCell'] at this; done)
    | [], hl => rw [hs] at hl; cases hl
    | _ :: _ :: _, hl => rw [hs] at hl; simp at hl

/-- A part of cells by value. -/
theorem run_part {T : TypeId} {s : Sh} {pre cs post : List Value} (hT : okT P T s = true) (hl : cs.length = s.size) (w : World) : (part T (pre ++ cs ++ post).toArray pre.length).run P w = .ok (mkV s cs) w := by
  simp only [okT, Bool.and_eq_true] at hT
  obtain ⟨⟨⟨h1, h2⟩, _⟩, h3⟩ := hT
  unfold mkV
  cases ha : s.agg with
  | true =>
    rw [ha] at h2
    simp only [part, Sem.run_bind, agB_ok h2, szB_ok h1, Result.andThen_ok, if_true, Sem.run_pure]
    congr 2
    apply Array.ext'
    simp [← hl]
  | false =>
    rw [ha] at h2
    have hs : s.size = 1 := by cases s <;> first | rfl | (simp [Sh.isV] at h3; done) | (simp [Sh.agg] at ha; done)
    obtain ⟨v, rfl⟩ : ∃ v, cs = [v] := by
      match cs, hl with
      | [v], _ => exact ⟨v, rfl⟩
      | [], hl => rw [hs] at hl; cases hl
      | _ :: _ :: _, hl => rw [hs] at hl; simp at hl
    simp [part, agB_ok h2]

theorem fd_val {T f m ft fo : Nat} {s : Sh} {x : s.ty} {v : TV} {u : Value} (hu : RelV P M φ (.v (.st s) x) u) (hF : fldB P T f = some (m, ft, fo)) (hg : getP (.st s) x (fPath m f) = some v) (hn : noI (fPath m f) = true) (ho : Nat.beq (offP (.st s) (fPath m f)) fo = true) (hT : okT P ft v.1 = true) (w : World) :
    ∃ y, (Instr.field T u f).run P w = .ok y w ∧ RelV P M φ (loaded v) y := by
  obtain ⟨fs, F, h1, h2, rfl, rfl⟩ := fldB_ok hF
  obtain ⟨hf, cs, rfl, hr⟩ := hu
  obtain ⟨pre, c, post, rfl, e2, e3, _⟩ := rep_get (.inl hf) hr hg (okP_noI hn hg)
  have hf' := getP_fixed hf hg
  refine ⟨mkV v.1 c, ?_, loaded_ok hf' e3⟩
  have := run_part (P := P) (pre := pre) (post := post) hT (rep_len hf' e3) w
  rw [e2, Nat.eq_of_beq_eq_true ho] at this
  have e : mkV (.st s) (pre ++ c ++ post) = .agg (pre ++ c ++ post).toArray := rfl
  rw [e]
  simp [Instr.field, run_underlying h1, h2, asAgg]
  simpa using this

theorem run_fieldPlace {a : Addr} {F : Field} {n : Nat} (hn : ∀ w, (sizeOf F.type).run P w = .ok n w) (h0 : n ≠ 0) (hs : a.spot = none) (w : World) : (fieldPlace a F).run P w = .ok ⟨a.block, a.off + F.offset, none⟩ w := by
  obtain ⟨g, o, sp⟩ := a
  simp only at hs
  subst hs
  have : (⟨g, o, none⟩ : Addr).add F.offset = ⟨g, o + F.offset, none⟩ := by
    unfold Addr.add
    split
    · simp_all
    · rfl
  simp [fieldPlace, hn, h0, this]
theorem fa_ptr {T f m ft fo n : Nat} {L : Nat} {p : Path} {off : Nat} {u : Value} (hu : RelV P M φ (.ptr L p off) u) (hF : fldB P T f = some (m, ft, fo)) (hn : szB P ft n = true) (h0 : Nat.beq n 0 = false) (w : World) (q : Path) :
    ∃ y, (Instr.fieldAt T u f).run P w = .ok y w ∧ RelV P M φ (.ptr L q (off + fo)) y := by
  obtain ⟨fs, F, h1, h2, rfl, rfl⟩ := fldB_ok hF
  obtain ⟨g, h3, rfl⟩ := hu
  refine ⟨_, ?_, g, h3, rfl⟩
  have h0' : n ≠ 0 := fun e => by subst e; simp at h0
  simp [Instr.fieldAt, run_underlying h1, h2, Instr.sureAddr, run_fieldPlace (szB_ok hn) h0']
theorem fa_fp {T f m ft fo n : Nat} {s : Sh} {x : s.ty} {v : TV} {u : Value} (hu : RelV P M φ (.fp s x) u) (hF : fldB P T f = some (m, ft, fo)) (hn' : szB P ft n = true) (h0 : Nat.beq n 0 = false) (hg : getP s x (fPath m f) = some v) (hn : noI (fPath m f) = true) (ho : Nat.beq (offP s (fPath m f)) fo = true) (w : World) :
    ∃ y, (Instr.fieldAt T u f).run P w = .ok y w ∧ RelV P M φ (.fp v.1 v.2) y := by
  obtain ⟨fs, F, h1, h2, rfl, rfl⟩ := fldB_ok hF
  obtain ⟨hf, g, off, cs, rfl, h3, h4⟩ := hu
  obtain ⟨pre, c, post, rfl, e2, e3, _⟩ := rep_get (.inl hf) h4 hg (okP_noI hn hg)
  have h0' : n ≠ 0 := fun e => by subst e; simp at h0
  have e5 := Nat.eq_of_beq_eq_true ho
  refine ⟨.pointer (some ⟨g, off + F.offset, none⟩), ?_, getP_fixed hf hg, g, off + F.offset, c, rfl, ?_, e3⟩
  · simp [Instr.fieldAt, run_underlying h1, h2, Instr.sureAddr, run_fieldPlace (szB_ok hn') h0']
  · intro q hq
    obtain ⟨b', o', c', k1, k2, k3⟩ := h3 (pre.length + q) (by simp only [List.length_append]; omega)
    simp only [Option.some.injEq, Addr.mk.injEq, and_true] at k1
    obtain ⟨rfl, rfl⟩ := k1
    refine ⟨_, _, c', rfl, k2, ?_⟩
    rw [List.append_assoc, List.getElem?_append_right (by omega), List.getElem?_append_left (by omega)] at k3
    rw [← e5, ← e2, Nat.add_assoc, k3]
    congr 1
    omega
end
end Go.Proofs.YtlhbekiplnmolaaDoor
