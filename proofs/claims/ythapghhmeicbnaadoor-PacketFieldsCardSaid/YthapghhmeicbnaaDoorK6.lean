/- The machine's side, told once: what is shown of one operation in a region that draws; plain types compared; slices of plain elements. -/
import Derived.Test.YthapghhmeicbnaaDoorK5
import Derived.Test.YthapghhmeicbnaaDoorEntEq
set_option linter.unusedVariables false
set_option linter.unusedSimpArgs false
namespace Go.Proofs.YthapghhmeicbnaaDoor
open Go.RowKit

section
variable {P : Program} {fn : Func} {w0 : World} {k : List KI} {ρ : Env} {H : Hp} {R : Value → Hp → Prop} {ops : Array Oper} {i : Nat} {todo : List Nat} {dst : Option Tmp} {d : Tmp} {pl : List PI} {ρ1 : Env} {p : Pn} {V : Nat → Value} {hs : Nat → Hp} {J : List Nat}

theorem ob_mv {f : List Value → Value} (hp : pl[i]? = some (.val J f)) (h : stepG fn.ntmps ops i (envAt ops pl V ρ1 p) = some (dst, pure (.value (f (J.map V))))) : Ob P fn w0 ops pl ρ1 H i p V hs := by
  unfold Ob
  rw [hp]
  exact ⟨_, _, h, fun w hw => .inl ⟨_, w, [], rfl, Sat.start w, rfl⟩⟩
theorem ob_rd {f : List Value → Value} {s : Sem Value} (hp : pl[i]? = some (.val J f)) (h : stepG fn.ntmps ops i (envAt ops pl V ρ1 p) = some (dst, vN s)) (hr : Rdo P w0 (p.B.flatMap hs ++ H) s (f (J.map V))) : Ob P fn w0 ops pl ρ1 H i p V hs := by
  unfold Ob
  rw [hp]
  exact ⟨_, _, h, fun w hw => .inl ⟨_, w, [], vN_run (hr w hw), Sat.start w, rfl⟩⟩
theorem ob_pick {f : List Value → Value} {c : Bool} {x y : Value} (hp : pl[i]? = some (.val J f)) (h : stepG fn.ntmps ops i (envAt ops pl V ρ1 p) = some (dst, (do pure (.value (if ← asBool (.bool c) then x else y))))) (hv : (if c then x else y) = f (J.map V)) : Ob P fn w0 ops pl ρ1 H i p V hs := by
  unfold Ob
  rw [hp]
  exact ⟨_, _, h, fun w hw => .inl ⟨_, w, [], rfl, Sat.start w, hv⟩⟩
theorem ob_pf {f : List Value → Value} {g : FuncId} {l : List Value} (hp : pl[i]? = some (.val J f)) (h : stepG fn.ntmps ops i (envAt ops pl V ρ1 p) = some (dst, callN (.func (.func g) #[] #[]) l))
    (hb : ∀ args w, (callFunc g args).run P w = .ok (.enter g args) w) (hc : ∀ w, Sat w0 (p.B.flatMap hs ++ H) w → Fn P g l.toArray w fun u _ => u = f (J.map V)) : Ob P fn w0 ops pl ρ1 H i p V hs := by
  unfold Ob
  rw [hp]
  refine ⟨_, _, h, fun w hw => .inr ⟨g, l.toArray, ?_, hc w hw⟩⟩
  have := callN_run (P := P) (f := g) (l := l) (cap := #[]) (w := w) (hb _ w)
  rwa [Array.append_empty] at this
theorem ob_call {Q : List Value → Value → Hp → Prop} {g : FuncId} {l : List Value} (hp : pl[i]? = some (.rel J Q)) (h : stepG fn.ntmps ops i (envAt ops pl V ρ1 p) = some (dst, callN (.func (.func g) #[] #[]) l))
    (hb : ∀ args w, (callFunc g args).run P w = .ok (.enter g args) w) (hc : ∀ w, Sat w0 (p.B.flatMap hs ++ H) w → Fn P g l.toArray w (Q (J.map V))) : Ob P fn w0 ops pl ρ1 H i p V hs := by
  unfold Ob
  rw [hp]
  refine ⟨_, _, h, fun w hw => .inr ⟨g, l.toArray, ?_, hc w hw⟩⟩
  have := callN_run (P := P) (f := g) (l := l) (cap := #[]) (w := w) (hb _ w)
  rwa [Array.append_empty] at this
theorem ob_alloc {Q : List Value → Value → Hp → Prop} {t : TypeId} {z : Value} (hp : pl[i]? = some (.rel J Q)) (h : stepG fn.ntmps ops i (envAt ops pl V ρ1 p) = some (dst, vN (Instr.alloc t true (.tuple #[])))) (hz : ∀ w, (zeroValue t).run P w = .ok z w)
    (hq : ∀ g, Q (J.map V) (.pointer (some ⟨g, 0, none⟩)) [.blk g (.cells z.cells t)]) : Ob P fn w0 ops pl ρ1 H i p V hs := by
  unfold Ob
  rw [hp]
  exact ⟨_, _, h, fun w hw => .inl ⟨_, _, _, vN_run (by simp [Instr.alloc, hz, newVar, newRow]), (Sat.start w).alloc _, hq w.heap.size⟩⟩
theorem ob_skip (hp : pl[i]? = some .skip) (h : skipG fn.ntmps ops i (envAt ops pl V ρ1 p) = some dst) : Ob P fn w0 ops pl ρ1 H i p V hs := by
  unfold Ob
  rw [hp]
  exact ⟨_, h⟩

/-! ### A callee that works on what the caller knows -/

def FnH (P : Program) (f : FuncId) (args : Array Value) (w0 : World) (H : Hp) (Q : Value → Hp → Prop) : Prop :=
  ∀ w, Sat w0 H w → Calls P f args w fun e w' => ∃ v H', e = .returned v ∧ Sat w0 H' w' ∧ Q v H'

theorem fnH_of_run {f : FuncId} {args : Array Value} {c : Code} {Q : Value → Hp → Prop} (hf : P.funcs[f]? = some fn) (hb : fn.body = some c) (hn : Nat.ble args.size fn.ntmps = true)
    (h : Run P fn w0 [.code c] (envOf args.toList 0) H Q) : FnH P f args w0 H Q := by
  intro w hs
  refine calls_of_wp hf hb (h _ _ ?_ ?_ rfl hs)
  · refine envOf_ok _ _ _ fun j hj => ?_
    rw [Array.length_toList] at hj
    simp only [Nat.zero_add, Array.getElem?_toList]
    rw [Array.getElem?_append_left hj]
  · have := Nat.le_of_ble_eq_true hn
    simp
    omega

theorem run_callH {f : FuncId} {l : List Value} {Q : Value → Hp → Prop} (h : step fn.ntmps ops i ρ = some (some d, callN (.func (.func f) #[] #[]) l))
    (hb : ∀ args w, (callFunc f args).run P w = .ok (.enter f args) w) (hc : FnH P f l.toArray w0 H Q)
    (hk : ∀ v H', Q v H' → Run P fn w0 (.ops ops todo :: k) ((d, v) :: ρ) H' R) : Run P fn w0 (.ops ops (i :: todo) :: k) ρ H R := by
  obtain ⟨o, ho, hg, hd, hlt, he⟩ := step_ok h
  intro a w h1 h2 h3 h4
  show wpOps P ops _ (i :: todo) a w
  simp only [wpOps, ho, wanted_none hg, if_true]
  left
  simp only [Oper.wp, he a h1, callN_run (hb _ w), Oper.upon_enter]
  rw [Array.append_empty]
  refine (hc w h4).mono ?_
  rintro e w' ⟨v, hh, rfl, hs, hq⟩
  simp only [hd]
  exact hk v hh hq _ _ (h1.put d v (by rw [h2]; exact hlt d rfl)) (by rw [put_size]; exact h2) (by rw [put_defers]; exact h3) hs

theorem run_call0 {f : FuncId} {l : List Value} {Q : Value → Hp → Prop} (h : step fn.ntmps ops i ρ = some (some d, callN (.func (.func f) #[] #[]) l))
    (hb : ∀ args w, (callFunc f args).run P w = .ok (.enter f args) w) (hc : ∀ w, Sat w0 H w → Fn P f l.toArray w Q)
    (hk : ∀ v h, Q v h → Run P fn w0 (.ops ops todo :: k) ((d, v) :: ρ) (h ++ H) R) : Run P fn w0 (.ops ops (i :: todo) :: k) ρ H R :=
  run_call h Array.append_empty hb hc hk

/-! ### Plain types compared -/

theorem rd_flat_eql {t : TypeId} {m D : Nat} {ks : List Lk} {x y : Operand} {xs ys : Array Value} {la lb : List Lit} {b : Bool} (hg : P.eqGuardType P.depth t = false) (hk : P.keyTypeAt m t = true) (hm : m ≤ 10000) (hf : flat P D t = some ks) (fx : (Value.agg xs).formed P t = true) (fy : (Value.agg ys).formed P t = true)
    (hx : fits ks xs.toList = some la) (hy : fits ks ys.toList = some lb) (hb : b = true ↔ la = lb) : Rdo P w0 H (eqN .eql t x y (.agg xs) (.agg ys)) (.bool b) := by
  intro w _
  simp [eqN, eqGuard, hg, run_eql_flat hk hm hf fx fy hx hy hb]
theorem rd_flat_neq {t : TypeId} {m D : Nat} {ks : List Lk} {x y : Operand} {xs ys : Array Value} {la lb : List Lit} {b : Bool} (hg : P.eqGuardType P.depth t = false) (hk : P.keyTypeAt m t = true) (hm : m ≤ 10000) (hf : flat P D t = some ks) (fx : (Value.agg xs).formed P t = true) (fy : (Value.agg ys).formed P t = true)
    (hx : fits ks xs.toList = some la) (hy : fits ks ys.toList = some lb) (hb : b = true ↔ la = lb) : Rdo P w0 H (eqN .neq t x y (.agg xs) (.agg ys)) (.bool (!b)) := by
  intro w _
  simp [eqN, eqGuard, hg, run_neq_flat hk hm hf fx fy hx hy hb]

/-! ### Slices of plain elements -/

theorem row_at {α : Type} {E : Enc α} {l : List α} {q j : Nat} {x : α} (h : l[q]? = some x) (hj : j < E.sz) : (E.row l)[q * E.sz + j]? = (E.cells x)[j]? := by
  obtain ⟨hq, rfl⟩ := List.getElem?_eq_some_iff.1 h
  exact E.row_get l q hq j hj
theorem row_all {α : Type} {E : Enc α} {l : List α} {q : Nat} {x : α} (h : l[q]? = some x) : ((E.row l).drop (q * E.sz)).take E.sz = E.cells x := by
  apply List.ext_getElem?
  intro j
  rw [List.getElem?_take]
  split
  · rename_i hj
    rw [List.getElem?_drop]
    exact row_at h hj
  · rename_i hj
    rw [List.getElem?_eq_none (by rw [E.len]; omega)]
theorem row_lt {α : Type} {E : Enc α} {l : List α} {q : Nat} {x : α} (h : l[q]? = some x) : q * E.sz + E.sz ≤ (E.row l).length := by
  obtain ⟨hq, _⟩ := List.getElem?_eq_some_iff.1 h
  rw [E.row_length, ← Nat.succ_mul]
  exact Nat.mul_le_mul_right _ hq
theorem cells_rd {α : Type} {E : Enc α} (hsz : 0 < E.sz) {w : World} {A : Option Addr} {l : List α} : Cells w A (E.row l) ↔ Rd E w A l := by
  constructor
  · intro h q hq
    have hlt : ∀ j, j < E.sz → q * E.sz + j < (E.row l).length := fun j hj => by
      have := row_lt (E := E) (List.getElem?_eq_getElem hq); omega
    obtain ⟨b, o, hA, _⟩ := h _ (hlt 0 hsz)
    refine ⟨b, o, hA, fun j hj => ?_⟩
    obtain ⟨b', o', hA', hc⟩ := h _ (hlt j hj)
    rw [hA] at hA'
    obtain ⟨rfl, rfl⟩ : b = b' ∧ o = o' := by simpa using hA'
    rw [Nat.add_assoc, hc]
    exact row_at (List.getElem?_eq_getElem hq) hj
  · intro h q hq
    rw [E.row_length] at hq
    have hd : q / E.sz < l.length := (Nat.div_lt_iff_lt_mul hsz).2 hq
    have hm := Nat.mod_lt q hsz
    have e : q / E.sz * E.sz + q % E.sz = q := by rw [Nat.mul_comm]; exact Nat.div_add_mod q E.sz
    obtain ⟨b, o, hA, hc⟩ := h (q / E.sz) hd
    refine ⟨b, o, hA, ?_⟩
    have h1 := hc (q % E.sz) hm
    rw [Nat.add_assoc, e] at h1
    rw [h1]
    have h2 := row_at (E := E) (List.getElem?_eq_getElem hd) hm
    rw [e] at h2
    exact h2.symm
end

/-! ### Entries -/

def Ent.arr (e : Ent) : Array Value := #[.int .i64 e.kind, .int .i64 e.service, .int .i64 e.group, .int .u64 e.session, .int .u64 e.number, .string e.text]
section
variable {w0 : World} {H : Hp} {x y : Operand}
theorem rd_ent_eql {e f : Ent} (he : e.Ok) (hf : f.Ok) : Rdo Tryd.prog w0 H (eqN .eql 30 x y (.agg e.arr) (.agg f.arr)) (.bool (decide (e = f))) :=
  rd_flat_eql (m := 2) ent_guard (by kernel_rfl) (by decide) ent_flat (by kernel_rfl) (by kernel_rfl) (Ent.fit he) (Ent.fit hf) (by rw [decide_eq_true_iff, Ent.lits_inj])
theorem rd_ent_neq {e f : Ent} (he : e.Ok) (hf : f.Ok) : Rdo Tryd.prog w0 H (eqN .neq 30 x y (.agg e.arr) (.agg f.arr)) (.bool (decide (e ≠ f))) := by
  have := rd_flat_neq (w0 := w0) (H := H) (x := x) (y := y) (P := Tryd.prog) (b := decide (e = f)) (m := 2) ent_guard (by kernel_rfl) (by decide) ent_flat (by kernel_rfl) (by kernel_rfl) (Ent.fit he) (Ent.fit hf) (by rw [decide_eq_true_iff, Ent.lits_inj])
  rwa [show (!decide (e = f)) = decide (e ≠ f) by simp] at this
theorem rd_ent_nz {e : Ent} (he : e.Ok) : Rdo Tryd.prog w0 H (eqN .neq 30 x y (.agg #[.int .i64 e.kind, .int .i64 e.service, .int .i64 e.group, .int .u64 e.session, .int .u64 e.number, .string e.text]) (.agg #[.int .i64 0, .int .i64 0, .int .i64 0, .int .u64 0, .int .u64 0, .string ⟨#[]⟩])) (.bool (decide (e ≠ Ent.zero))) :=
  rd_ent_neq (f := Ent.zero) he ⟨by decide, by decide, by decide, by decide, by decide, by decide⟩
theorem rd_ent_ez {e : Ent} (he : e.Ok) : Rdo Tryd.prog w0 H (eqN .eql 30 x y (.agg #[.int .i64 e.kind, .int .i64 e.service, .int .i64 e.group, .int .u64 e.session, .int .u64 e.number, .string e.text]) (.agg #[.int .i64 0, .int .i64 0, .int .i64 0, .int .u64 0, .int .u64 0, .string ⟨#[]⟩])) (.bool (decide (e = Ent.zero))) :=
  rd_ent_eql (f := Ent.zero) he ⟨by decide, by decide, by decide, by decide, by decide, by decide⟩
theorem zero_ok' : Ent.zero.Ok := ⟨by decide, by decide, by decide, by decide, by decide, by decide⟩
end
end Go.Proofs.YthapghhmeicbnaaDoor
