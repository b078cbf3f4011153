/- The machine's side, told once: a string's bytes in memory of one's own. -/
import Derived.Test.YthapghhmeicbnaaDoorK9
import Derived.Laws.IdiomStrings
import Derived.Laws.BitsAllLaws
set_option linter.unusedVariables false
set_option linter.unusedSimpArgs false
namespace Go.Proofs.YthapghhmeicbnaaDoor
open Go.RowKit

section
variable {P : Program} {fn : Func} {w0 : World} {k : List KI} {ρ : Env} {H : Hp} {R : Value → Hp → Prop} {ops : Array Oper} {i : Nat} {todo : List Nat} {d : Tmp}

theorem bytesRow_get {l : List UInt8} {c q : Nat} {x : UInt8} (h : l[q]? = some x) : (bytesRow (bs l) c)[q]? = some (.int .u8 ((x.toNat : Nat) : Int)) := by
  obtain ⟨hq, rfl⟩ := List.getElem?_eq_some_iff.1 h
  simp [bytesRow, bs, Array.getElem?_append, hq]
theorem bytesRow_ge (l : List UInt8) (c : Nat) : l.length ≤ (bytesRow (bs l) c).size := by simp [bytesRow, bs]
theorem bytesRow_set {l : List UInt8} {c q : Nat} {y : UInt8} (hq : q < l.length) : (bytesRow (bs l) c).setIfInBounds q (.int .u8 ((y.toNat : Nat) : Int)) = bytesRow (bs (l.set q y)) c := by
  apply Array.ext_getElem?
  intro j
  by_cases e : q = j
  · subst e
    rw [Array.getElem?_setIfInBounds_self_of_lt (by have := bytesRow_ge l c; omega), bytesRow_get (x := y) (by simp [hq])]
  · rw [Array.getElem?_setIfInBounds_ne e]
    simp only [bytesRow, bs, bs_size, Array.getElem?_append, List.length_set, List.size_toArray, Array.size_map, List.map_toArray, List.length_map]
    have : ∀ s : List UInt8, (⟨s.toArray⟩ : ByteArray).size = s.length := fun s => rfl
    simp only [this, List.length_set]
    split
    · rename_i hj
      simp [List.getElem?_set, e]
    · rfl

/-- '[]byte(s)'. -/
theorem run_strBytes {t u e : TypeId} {l : List UInt8} (h : step fn.ntmps ops i ρ = some (some d, vN (convert t u (.string (bs l))))) (ht : P.underlying t = some .string) (hu : P.underlying u = some (.slice e)) (he : P.underlying e = some (.int .u8))
    (hk : ∀ g cap fr, l.length ≤ fr.1 → Run P fn w0 (.ops ops todo :: k) ((d, .slice (some ⟨g, 0, none⟩) l.length cap) :: ρ) (.blk g (.cells (bytesRow (bs l) cap) e fr) :: H) R) : Run P fn w0 (.ops ops (i :: todo) :: k) ρ H R := by
  refine run_val h fun w h4 => ?_
  have hr := run_bytes_of_string (P := P) w t u e (bs l) ht hu he
  rw [bs_size] at hr
  refine ⟨_, _, _, vN_run hr, (h4.draws 1).alloc _, ?_⟩
  exact hk _ _ _ (bytesRow_ge _ _)

/-- One cell written, in a block with a place marked. -/
theorem run_storeFr {T t : TypeId} {j g off : Nat} {c c' : Array Value} {fr : Nat × Nat} {v : Value} {H' : Hp} (h : step fn.ntmps ops i ρ = some (none, uN (Instr.storeAt T (.pointer (some ⟨g, off, none⟩)) v)))
    (hn : ∀ w, (sizeOf T).run P w = .ok 1 w) (hvs : v.cells = #[v]) (h1 : v.oneCell' = true) (hH : H[j]? = some (.blk g (.cells c t fr))) (hs : off < c.size) (hf : off < fr.1) (hc : c.setIfInBounds off v = c') (hH' : H.set j (.blk g (.cells c' t fr)) = H')
    (hk : Run P fn w0 (.ops ops todo :: k) ρ H' R) : Run P fn w0 (.ops ops (i :: todo) :: k) ρ H R := by
  refine run_unit h fun w h4 => ?_
  have hm := h4.mem j _ hH
  have hg := hm.2
  have hcell : w.cell? ⟨g, off, none⟩ = some (c[off]'hs) := by simp [World.cell?, hg]
  have hfz : w.frozen? ⟨g, off, none⟩ = false := by simp [World.frozen?, hg]; omega
  have hset := blk_set hg off v
  have hst : (store ⟨g, off, none⟩ v).run P w = .ok () (w.setCell ⟨g, off, none⟩ v) := by
    cases v <;> first | (simp [Value.oneCell'] at h1; done) | simp [store, Sem.run, hcell, hfz]
  have hr : (Instr.storeAt T (.pointer (some ⟨g, off, none⟩)) v).run P w = .ok () (w.setCell ⟨g, off, none⟩ v) := by
    simp [Instr.storeAt, Instr.sureAddr, storeVar, hn, hvs, storeCells, add_zero_off, hst]
  refine ⟨_, H', uN_run hr, ?_, hk⟩
  subst hH' hc
  exact h4.write hH rfl rfl rfl rfl (by simp [World.setCell]) (fun b _ hb => Below.heap_setCell _ _ _ _ hb) ⟨hm.1, hset⟩ (fun b hb => .inl (by simpa [HI.foot] using hb.symm))

/-- 'string(b)'. -/
theorem rd_bytesStr {t u e : TypeId} {j g cap n : Nat} {c : Nat} {l : List UInt8} {fr : Nat × Nat} {T : TypeId} (ht : P.underlying t = some (.slice e)) (he : P.underlying e = some (.int .u8)) (hu : P.underlying u = some .string) (hH : H[j]? = some (.blk g (.cells (bytesRow (bs l) c) T fr))) (hn : n = l.length) :
    Rdo P w0 H (convert t u (.slice (some ⟨g, 0, none⟩) n cap)) (.string (bs l)) := by
  intro w s
  subst hn
  refine conv_bytes w ht he hu g 0 cap l fun i hi => ?_
  rw [Nat.zero_add]
  exact sat_cell s hH (bytesRow_get (List.getElem?_eq_getElem hi))

theorem rd_xor8 {t : TypeId} {p q : Operand} {x y : UInt8} : Rdo P w0 H (eqN .xor t p q (.int .u8 ((x.toNat : Nat) : Int)) (.int .u8 ((y.toNat : Nat) : Int))) (.int .u8 (((x ^^^ y).toNat : Nat) : Int)) := by
  refine rd_int ?_
  have h := u8_xor_nat x.toNat y.toNat x.toNat_lt y.toNat_lt
  simp only [intOp]
  rw [h, UInt8.toNat_xor]
end
theorem set_ne {l : List UInt8} {q : Nat} {x y : UInt8} (h : l[q]? = some x) (hy : y.toNat ≠ 0) : l.set q (x ^^^ y) ≠ l := by
  intro e
  have h1 := congrArg (·[q]?) e
  obtain ⟨hq, hx⟩ := List.getElem?_eq_some_iff.1 h
  simp only [List.getElem?_set_self hq, h, Option.some.injEq] at h1
  have h2 : y = 0 := by
    have := congrArg (x ^^^ ·) h1
    simpa [← UInt8.xor_assoc] using this
  subst h2
  exact hy rfl
end Go.Proofs.YthapghhmeicbnaaDoor
