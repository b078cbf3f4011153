/- Small facts for the walks. -/
import Derived.Test.YthapghhmeicbnaaDoorK7
set_option linter.unusedVariables false
set_option linter.unusedSimpArgs false
namespace Go.Proofs.YthapghhmeicbnaaDoor
open Go.RowKit

theorem lt_of_item {α : Type} {l : List α} {q n : Nat} {x : α} (h : l[q]? = some x) (hn : l.length = n) : q < n := by
  subst hn; exact (List.getElem?_eq_some_iff.1 h).1
theorem item_at {α : Type} {l : List α} {q : Nat} (h : q < l.length) : ∃ x, l[q]? = some x := ⟨_, List.getElem?_eq_getElem h⟩
theorem int_next {K : IntKind} {k : Nat} : (some (Value.int K ((k : Int) + 1)) : Option Value) = some (Value.int K ((k + 1 : Nat) : Int)) := rfl
theorem take_succ_same {α : Type} {a b : List α} {k : Nat} {x y : α} (h : a.take k = b.take k) (ha : a[k]? = some x) (hb : b[k]? = some y) (e : x = y) : a.take (k + 1) = b.take (k + 1) := by
  rw [List.take_add_one, List.take_add_one, h, ha, hb, e]
theorem ne_of_item {α : Type} {a b : List α} {k : Nat} {x y : α} (ha : a[k]? = some x) (hb : b[k]? = some y) (e : x ≠ y) : a ≠ b := by
  rintro rfl; rw [ha] at hb; exact e (Option.some.inj hb)
/-! What a call within a region that draws made, put in for its name. -/
def setV {α : Type} (V : Nat → α) (j : Nat) (x : α) : Nat → α := fun i => if Nat.beq i j then x else V i
theorem setV_same {α : Type} {V : Nat → α} {j : Nat} {x : α} (h : V j = x) : setV V j x = V := by
  funext i
  unfold setV
  split
  · rename_i e; rw [Nat.eq_of_beq_eq_true e, h]
  · rfl
theorem ob_set {P : Program} {fn : Func} {w0 : World} {H : Hp} {ops : Array Oper} {i j : Nat} {pl : List PI} {ρ1 : Env} {p : Pn} {V : Nat → Value} {hs : Nat → Hp} {x : Value} {y : Hp} (h : V j = x) (g : hs j = y)
    (hob : Ob P fn w0 ops pl ρ1 H i p (setV V j x) (setV hs j y)) : Ob P fn w0 ops pl ρ1 H i p V hs := by
  rwa [setV_same h, setV_same g] at hob

/-- A callee that only computes, on what is known of memory. -/
theorem run_pfw {P : Program} {fn : Func} {w0 : World} {k : List KI} {ρ : Env} {H : Hp} {R : Value → Hp → Prop} {ops : Array Oper} {i : Nat} {todo : List Nat} {d : Tmp} {f : FuncId} {l : List Value} {v : Value} (h : step fn.ntmps ops i ρ = some (some d, callN (.func (.func f) #[] #[]) l))
    (hb : ∀ args w, (callFunc f args).run P w = .ok (.enter f args) w) (hc : ∀ w, Sat w0 H w → Fn P f l.toArray w fun u _ => u = v)
    (hk : Run P fn w0 (.ops ops todo :: k) ((d, v) :: ρ) H R) : Run P fn w0 (.ops ops (i :: todo) :: k) ρ H R :=
  run_call (Q := fun u _ => u = v) h (Array.append_empty) hb hc fun u hh hu => by
    subst hu
    exact fun a w h1 h2 h3 h4 => hk a w h1 h2 h3 h4.drop
theorem rd_byteL {P : Program} {w0 : World} {H : Hp} {T : TypeId} {K : IntKind} {q : Int} {m : Nat} {l : List UInt8} {x : UInt8} (hT : P.underlying T = some .string) (hx : l[m]? = some x) (hq : q = (m : Int)) : Rdo P w0 H (Instr.index T (.string (bs l)) (.int K q)) (.int .u8 ((x.toNat : Nat) : Int)) := by
  obtain ⟨hm, rfl⟩ := List.getElem?_eq_some_iff.1 hx
  exact rd_byte hT hq (by rw [bs_size]; exact hm)
theorem rd_quoN {P : Program} {w0 : World} {H : Hp} {t : TypeId} {x y : Operand} {a b : Nat} (hb : b ≠ 0) (ha : a ≤ 9223372036854775807) : Rdo P w0 H (eqN .quo t x y (.int .i64 (a : Int)) (.int .i64 (b : Int))) (.int .i64 ((a / b : Nat) : Int)) := by
  refine rd_int ?_
  have e : (a : Int).tdiv (b : Int) = ((a / b : Nat) : Int) := rfl
  have := Nat.div_le_self a b
  simp only [intOp, e]
  rw [if_neg (by omega), IntWalk.i64_in _ (by generalize a / b = c at *; omega)]
theorem u8_ne {x y : UInt8} (h : ((((x.toNat : Nat) : Int)) != ((y.toNat : Nat) : Int)) = true) : x ≠ y := by
  rintro rfl
  simp at h
theorem u8_eq {x y : UInt8} (h : ((((x.toNat : Nat) : Int)) != ((y.toNat : Nat) : Int)) = false) : x = y := by
  have := eq_of_bne_f h
  exact UInt8.toNat_inj.1 (by omega)
end Go.Proofs.YthapghhmeicbnaaDoor
