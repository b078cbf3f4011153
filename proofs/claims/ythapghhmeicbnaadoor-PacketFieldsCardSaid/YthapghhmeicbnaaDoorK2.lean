/- The machine's side, told once: stores, numbers, parts, calls. -/
import Derived.Test.YthapghhmeicbnaaDoorK1
set_option linter.unusedVariables false
set_option linter.unusedSimpArgs false
namespace Go.Proofs.YthapghhmeicbnaaDoor
open Go.RowKit

section
variable {P : Program} {fn : Func} {w0 : World} {k : List KI} {ρ : Env} {H : Hp} {R : Value → Hp → Prop} {ops : Array Oper} {i : Nat} {todo : List Nat} {dst : Option Tmp} {d : Tmp}

theorem run_storeVar {w : World} {T t : TypeId} {g off n : Nat} {c : Array Value} {v : Value} (hn : ∀ w, (sizeOf T).run P w = .ok n w) (hvs : v.cells.size = n) (h1 : v.cells.toList.all Value.oneCell' = true)
    (hg : w.heap[g]? = some (.cells c t (0, 0))) (hs : off + n ≤ c.size) :
    ∃ w', (Instr.storeAt T (.pointer (some ⟨g, off, none⟩)) v).run P w = .ok () w' ∧ w'.heap[g]? = some (.cells (setAll c off v.cells.toList) t (0, 0)) ∧ w'.os = w.os ∧ w'.tape = w.tape ∧ w'.output = w.output ∧ w'.heap.size = w.heap.size ∧ ∀ b, b ≠ g → w'.heap[b]? = w.heap[b]? := by
  obtain ⟨w', r1, r⟩ := run_storeCells (P := P) v.cells.toList (off := off) (i := 0) hg (by rw [Array.length_toList]; omega) (List.all_eq_true.1 h1)
  refine ⟨w', ?_, r⟩
  simp [Instr.storeAt, Instr.sureAddr, storeVar, hn, hvs, r1]

theorem run_store {T t : TypeId} {j g off n : Nat} {c c' : Array Value} {v : Value} {H' : Hp} (h : step fn.ntmps ops i ρ = some (none, uN (Instr.storeAt T (.pointer (some ⟨g, off, none⟩)) v)))
    (hn : ∀ w, (sizeOf T).run P w = .ok n w) (hvs : v.cells.size = n) (h1 : v.cells.toList.all Value.oneCell' = true) (hH : H[j]? = some (.blk g (.cells c t))) (hs : Nat.ble (off + n) c.size = true) (hc : setAll c off v.cells.toList = c') (hH' : H.set j (.blk g (.cells c' t)) = H')
    (hk : Run P fn w0 (.ops ops todo :: k) ρ H' R) : Run P fn w0 (.ops ops (i :: todo) :: k) ρ H R := by
  refine run_unit h fun w h4 => ?_
  have hm := h4.mem j _ hH
  obtain ⟨w', r1, r2, r3, r4, r5, r6, r7⟩ := run_storeVar (P := P) hn hvs h1 hm.2 (Nat.le_of_ble_eq_true hs)
  refine ⟨w', H', uN_run r1, ?_, hk⟩
  subst hH' hc
  exact h4.write hH rfl r3 r4 r5 (by omega) (fun b _ hb => r7 b hb) ⟨hm.1, r2⟩ (fun b hb => .inl (by simpa [HI.foot] using hb.symm))

/-- The same into a variable that is a whole block. -/
theorem run_storeW {T t : TypeId} {j g n : Nat} {c c' : Array Value} {v : Value} {H' : Hp} (h : step fn.ntmps ops i ρ = some (none, uN (Instr.storeAt T (.pointer (some ⟨g, 0, none⟩)) v)))
    (hn : ∀ w, (sizeOf T).run P w = .ok n w) (hvs : v.cells.size = n) (h1 : v.cells.toList.all Value.oneCell' = true) (hH : H[j]? = some (.blk g (.cells c t))) (hs : c.size = n) (hc : v.cells = c') (hH' : H.set j (.blk g (.cells c' t)) = H')
    (hk : Run P fn w0 (.ops ops todo :: k) ρ H' R) : Run P fn w0 (.ops ops (i :: todo) :: k) ρ H R := by
  refine run_store h hn hvs h1 hH (Nat.ble_eq_true_of_le (by omega)) ?_ hH' hk
  subst hc
  have key : ∀ (l : List Value) (c : Array Value) (off : Nat), off + l.length ≤ c.size → ∀ q, (setAll c off l)[q]? = if off ≤ q ∧ q < off + l.length then l[q - off]? else c[q]? := by
    intro l
    induction l with
    | nil => intro c off _ q; simp [setAll]; omega
    | cons x l ih =>
      intro c off h q
      simp only [List.length_cons] at h
      rw [setAll, ih _ _ (by simp; omega)]
      by_cases h1 : off + 1 ≤ q ∧ q < off + 1 + l.length
      · rw [if_pos h1, if_pos (by simp; omega), show q - off = (q - (off + 1)) + 1 by omega, List.getElem?_cons_succ]
      · rw [if_neg h1]
        by_cases h2 : q = off
        · subst h2
          rw [if_pos (by simp)]
          simp [show q < c.size by omega]
        · rw [if_neg (by simp; omega), Array.getElem?_setIfInBounds_ne (fun e => h2 e.symm)]
  apply Array.ext_getElem?
  intro q
  rw [key _ _ _ (by rw [Array.length_toList]; omega)]
  split
  · simp
  · rename_i hq
    rw [Array.getElem?_eq_none (by rw [Array.length_toList] at hq; omega), Array.getElem?_eq_none (by rw [Array.length_toList] at hq; omega)]

/-! ### Numbers -/

def intOp (op : BinOp) (k : IntKind) (a b : Int) : Option Value :=
  match op with
  | .add => some (.int k (k.wrap (a + b)))
  | .sub => some (.int k (k.wrap (a - b)))
  | .mul => some (.int k (k.wrap (a * b)))
  | .eql => some (.bool (a == b))
  | .neq => some (.bool (a != b))
  | .lss => some (.bool (a < b))
  | .leq => some (.bool (a ≤ b))
  | .gtr => some (.bool (a > b))
  | .geq => some (.bool (a ≥ b))
  | .quo => if b = 0 then none else some (.int k (k.wrap (a.tdiv b)))
  | .rem => if b = 0 then none else some (.int k (a.tmod b))
  | .and => some (.int k (bits .and k a b))
  | .or => some (.int k (bits .or k a b))
  | .xor => some (.int k (bits .xor k a b))
  | _ => none

theorem rd_int {op : BinOp} {t : TypeId} {x y : Operand} {K : IntKind} {a b : Int} {v : Value} (hv : intOp op K a b = some v) : Rdo P w0 H (eqN op t x y (.int K a) (.int K b)) v := by
  intro w _
  unfold intOp at hv
  cases op <;> simp at hv <;> first
    | (obtain ⟨hb, rfl⟩ := hv; simp [eqN, eqGuard, binOp, Op.intDiv, hb])
    | (subst hv; simp [eqN, eqGuard, binOp, Op.intArith, Op.intCmp, bne]; done)
    | (subst hv; simp [eqN, eqGuard, binOp, intBits_and, intBits_or, intBits_xor])

theorem rd_add {t : TypeId} {x y : Operand} {K : IntKind} {a b r : Int} (hr : K.wrap (a + b) = r) : Rdo P w0 H (eqN .add t x y (.int K a) (.int K b)) (.int K r) := rd_int (by rw [← hr]; rfl)
theorem rd_sub {t : TypeId} {x y : Operand} {K : IntKind} {a b r : Int} (hr : K.wrap (a - b) = r) : Rdo P w0 H (eqN .sub t x y (.int K a) (.int K b)) (.int K r) := rd_int (by rw [← hr]; rfl)
theorem rd_mul {t : TypeId} {x y : Operand} {K : IntKind} {a b r : Int} (hr : K.wrap (a * b) = r) : Rdo P w0 H (eqN .mul t x y (.int K a) (.int K b)) (.int K r) := rd_int (by rw [← hr]; rfl)
theorem rd_cmp {op : BinOp} {t : TypeId} {x y : Operand} {K : IntKind} {a b : Int} {q r : Bool} (hv : intOp op K a b = some (.bool q)) (hr : q = r) : Rdo P w0 H (eqN op t x y (.int K a) (.int K b)) (.bool r) := rd_int (hr ▸ hv)
theorem rd_shl {t : TypeId} {x y : Operand} {K J : IntKind} {a b : Int} (hb : ¬ b < 0) : Rdo P w0 H (eqN .shl t x y (.int K a) (.int J b)) (.int K (K.wrap (a * 2 ^ min b.toNat K.bits))) := by
  intro w _
  simp [eqN, eqGuard, binOp, Op.shift, hb]
theorem rd_shr {t : TypeId} {x y : Operand} {K J : IntKind} {a b : Int} (hb : ¬ b < 0) : Rdo P w0 H (eqN .shr t x y (.int K a) (.int J b)) (.int K (a.fdiv (2 ^ min b.toNat K.bits))) := by
  intro w _
  simp [eqN, eqGuard, binOp, Op.shift, hb]
theorem rd_streq {t : TypeId} {x y : Operand} {a b : ByteArray} {r : Bool} (hr : (a.toList == b.toList) = r) : Rdo P w0 H (eqN .eql t x y (.string a) (.string b)) (.bool r) := by
  intro w _
  simp [eqN, eqGuard, binOp, Op.stringOp, hr]
theorem rd_strne {t : TypeId} {x y : Operand} {a b : ByteArray} {r : Bool} (hr : (!(a.toList == b.toList)) = r) : Rdo P w0 H (eqN .neq t x y (.string a) (.string b)) (.bool r) := by
  intro w _
  rw [← hr]
  simp [eqN, eqGuard, binOp, Op.stringOp]
theorem rd_strcat {t : TypeId} {x y : Operand} {a b : ByteArray} (h : a.size + b.size ≤ 9223372036854775807) : Rdo P w0 H (eqN .add t x y (.string a) (.string b)) (.string (a ++ b)) := by
  intro w _
  have : ¬ (((a.size + b.size : Nat) : Int) > IntKind.i64.max) := by
    have e : IntKind.i64.max = 9223372036854775807 := by decide
    rw [e]; omega
  simp only [eqN, eqGuard, binOp, Op.stringOp, if_neg this]
  simp
theorem rd_not {b : Bool} : Rdo P w0 H (Op.unary .not (.bool b)) (.bool (!b)) := fun _ _ => rfl
theorem rd_toInt {s t : TypeId} {j K : IntKind} {n r : Int} {td : TypeDesc} (hs : P.underlying s = some td) (ht : P.underlying t = some (.int K)) (hr : K.wrap n = r) : Rdo P w0 H (convert s t (.int j n)) (.int K r) := by
  intro w _
  subst hr
  simp only [convert, Sem.run_bind, run_underlying hs, run_underlying ht, Result.andThen_ok]
  cases td <;> rfl

/-! ### Parts -/

theorem field_of {fs : Array Field} {f ft fo : Nat} (hf : (fs[f]?).map (fun F => (F.type, F.offset)) = some (ft, fo)) : ∃ F, fs[f]? = some F ∧ F.type = ft ∧ F.offset = fo := by
  cases h : fs[f]? with
  | none => simp [h] at hf
  | some F => simp [h] at hf; exact ⟨F, rfl, hf.1, hf.2⟩

theorem rd_fieldAddr {T : TypeId} {f g off n ft fo : Nat} {fs : Array Field} (hT : P.underlying T = some (.struct fs)) (hf : (fs[f]?).map (fun F => (F.type, F.offset)) = some (ft, fo)) (hn : ∀ w, (sizeOf ft).run P w = .ok n w) (h0 : Nat.blt 0 n = true) {o : Nat} (ho : off + fo = o) :
    Rdo P w0 H (Instr.fieldAt T (.pointer (some ⟨g, off, none⟩)) f) (.pointer (some ⟨g, o, none⟩)) := by
  intro w _
  have h0' : n ≠ 0 := by
    have : 0 < n := by simpa [Nat.blt_eq] using h0
    omega
  obtain ⟨F, hF, rfl, rfl⟩ := field_of hf
  subst ho
  simp [Instr.fieldAt, run_underlying hT, hF, Instr.sureAddr, fieldPlace, hn, h0', add_zero_off]

theorem rd_field1 {T : TypeId} {f ft fo : Nat} {fs : Array Field} {c : Array Value} {v : Value} (hT : P.underlying T = some (.struct fs)) (hf : (fs[f]?).map (fun F => (F.type, F.offset)) = some (ft, fo)) (ha : ∀ w, (isAgg ft).run P w = .ok false w) (hc : c[fo]? = some v) : Rdo P w0 H (Instr.field T (.agg c) f) v := by
  intro w _
  obtain ⟨F, hF, rfl, rfl⟩ := field_of hf
  simp [Instr.field, run_underlying hT, hF, asAgg, part, ha, hc]
theorem rd_fieldA {T : TypeId} {f n ft fo : Nat} {fs : Array Field} {c u : Array Value} (hT : P.underlying T = some (.struct fs)) (hf : (fs[f]?).map (fun F => (F.type, F.offset)) = some (ft, fo)) (ha : ∀ w, (isAgg ft).run P w = .ok true w) (hn : ∀ w, (sizeOf ft).run P w = .ok n w) (hc : c.extract fo (fo + n) = u) : Rdo P w0 H (Instr.field T (.agg c) f) (.agg u) := by
  intro w _
  obtain ⟨F, hF, rfl, rfl⟩ := field_of hf
  simp [Instr.field, run_underlying hT, hF, asAgg, part, ha, hn, hc]

/-- A part of an array by value. -/
theorem rd_index1 {T e : TypeId} {len n : Nat} {K : IntKind} {q : Int} {m : Nat} {c : Array Value} {v : Value} (hT : P.underlying T = some (.array len e)) (hq : q = (m : Int)) (hm : m < len) (ha : ∀ w, (isAgg e).run P w = .ok false w) (hn : ∀ w, (sizeOf e).run P w = .ok n w) (hc : c[m * n]? = some v) : Rdo P w0 H (Instr.index T (.agg c) (.int K q)) v := by
  intro w _
  subst hq
  have h1 : (0 : Int) ≤ (m : Int) ∧ (m : Int) < (len : Int) := by omega
  have h2 : ¬ len ≤ m := by omega
  simp [Instr.index, asIntOf, run_underlying hT, hm, h2, part, ha, hn, hc]
theorem rd_indexA {T e : TypeId} {len n : Nat} {K : IntKind} {q : Int} {m : Nat} {c u : Array Value} (hT : P.underlying T = some (.array len e)) (hq : q = (m : Int)) (hm : m < len) (ha : ∀ w, (isAgg e).run P w = .ok true w) (hn : ∀ w, (sizeOf e).run P w = .ok n w) (hc : c.extract (m * n) (m * n + n) = u) : Rdo P w0 H (Instr.index T (.agg c) (.int K q)) (.agg u) := by
  intro w _
  subst hq
  have h1 : (0 : Int) ≤ (m : Int) ∧ (m : Int) < (len : Int) := by omega
  have h2 : ¬ len ≤ m := by omega
  simp [Instr.index, asIntOf, run_underlying hT, hm, h2, part, ha, hn, hc]
/-- A byte of a string. -/
theorem rd_byte {T : TypeId} {K : IntKind} {q : Int} {m : Nat} {s : ByteArray} (hT : P.underlying T = some .string) (hq : q = (m : Int)) (hm : m < s.size) : Rdo P w0 H (Instr.index T (.string s) (.int K q)) (.int .u8 ((s[m].toNat : Nat) : Int)) := by
  intro w _
  subst hq
  simp [Instr.index, asIntOf, run_underlying hT, hm]
/-- The place of an array's part. -/
theorem rd_indexAddrA {T e : TypeId} {len n g off o : Nat} {K : IntKind} {q : Int} {m : Nat} (hT : P.underlying T = some (.array len e)) (hq : q = (m : Int)) (hm : m < len) (hn : ∀ w, (sizeOf e).run P w = .ok n w) (ho : off + m * n = o) : Rdo P w0 H (Instr.indexAt T (.pointer (some ⟨g, off, none⟩)) (.int K q)) (.pointer (some ⟨g, o, none⟩)) := by
  intro w _
  subst hq ho
  have h1 : (0 : Int) ≤ (m : Int) ∧ (m : Int) < (len : Int) := by omega
  have h2 : ¬ len ≤ m := by omega
  simp [Instr.indexAt, asIntOf, run_underlying hT, Instr.sureAddr, hm, h2, hn, add_zero_off]
/-- The place of a slice's element. -/
theorem rd_indexAddrS {T e : TypeId} {len cap n g off o : Nat} {K : IntKind} {q : Int} {m : Nat} (hT : P.underlying T = some (.slice e)) (hq : q = (m : Int)) (hm : m < len) (hn : ∀ w, (sizeOf e).run P w = .ok n w) (ho : off + m * n = o) : Rdo P w0 H (Instr.indexAt T (.slice (some ⟨g, off, none⟩) len cap) (.int K q)) (.pointer (some ⟨g, o, none⟩)) := by
  intro w _
  subst hq ho
  have h1 : (0 : Int) ≤ (m : Int) ∧ (m : Int) < (len : Int) := by omega
  have h2 : ¬ len ≤ m := by omega
  simp [Instr.indexAt, asIntOf, run_underlying hT, hm, h2, hn, add_zero_off]

theorem rd_extract {vs : Array Value} {j : Nat} {v : Value} (h : vs[j]? = some v) : Rdo P w0 H (Instr.extract (.tuple vs) j) v := by
  intro w _
  simp [Instr.extract, h]

/-- A part of a string. -/
theorem rd_substr {T : TypeId} {s : ByteArray} {l h : Nat} {lo hi : Option Value} (hT : P.underlying T = some .string) (hl : lo = some (.int .i64 l) ∨ (lo = none ∧ l = 0)) (hh : hi = some (.int .i64 h) ∨ (hi = none ∧ h = s.size)) (h1 : l ≤ h) (h2 : h ≤ s.size) {r : ByteArray} (hr : s.extract l h = r) :
    Rdo P w0 H (Instr.sliceAt T (.string s) lo hi none) (.string r) := by
  intro w _
  subst hr
  rcases hl with rfl | ⟨rfl, rfl⟩ <;> rcases hh with rfl | ⟨rfl, rfl⟩
  all_goals simp [Instr.sliceAt, Instr.slice, run_underlying hT, Instr.sliceBounds, run_sliceBound, h1, h2]

/-! ### Calls -/

theorem Sat.drop {w : World} {h : Hp} (s : Sat w0 (h ++ H) w) : Sat w0 H w := by
  refine s.pick ((List.range H.length).map (· + h.length)) ?_ ?_
  · refine List.pairwise_map.2 ((List.nodup_range).imp fun hne e => hne (by omega))
  · apply List.ext_getElem?
    intro j
    simp only [List.getElem?_map, List.getElem?_range']
    by_cases hj : j < H.length
    · simp [hj, List.getElem?_append_right]
    · simp [hj, List.getElem?_eq_none]

theorem callN_run {f : FuncId} {l : List Value} {cap : Array Value} {w : World} (hc : (callFunc f (l.toArray ++ cap)).run P w = .ok (.enter f (l.toArray ++ cap)) w) : (callN (.func (.func f) #[] cap) l).run P w = .ok (.enter f (l.toArray ++ cap)) w := by
  simp only [callN, Deferred.ofValue, Sem.run_bind, Sem.run_pure, Result.andThen_ok, invoke]
  simpa using hc

theorem run_call {f : FuncId} {l : List Value} {cap args : Array Value} {Q : Value → Hp → Prop} (h : step fn.ntmps ops i ρ = some (some d, callN (.func (.func f) #[] cap) l)) (ha : l.toArray ++ cap = args)
    (hb : ∀ args w, (callFunc f args).run P w = .ok (.enter f args) w) (hc : ∀ w, Sat w0 H w → Fn P f args w Q)
    (hk : ∀ v h, Q v h → Run P fn w0 (.ops ops todo :: k) ((d, v) :: ρ) (h ++ H) R) : Run P fn w0 (.ops ops (i :: todo) :: k) ρ H R := by
  obtain ⟨o, ho, hg, hd, hlt, he⟩ := step_ok h
  intro a w h1 h2 h3 h4
  show wpOps P ops _ (i :: todo) a w
  simp only [wpOps, ho, wanted_none hg, if_true]
  left
  simp only [Oper.wp, he a h1, callN_run (hb _ w), Oper.upon_enter]
  rw [ha]
  refine (hc w h4).mono ?_
  rintro e w' ⟨v, hh, rfl, hs, hq⟩
  simp only [hd]
  exact hk v hh hq _ _ (h1.put d v (by rw [h2]; exact hlt d rfl)) (by rw [put_size]; exact h2) (by rw [put_defers]; exact h3) (h4.grow hs)

/-- A callee that only computes. -/
def Pf (P : Program) (f : FuncId) (args : Array Value) (v : Value) : Prop := ∀ w, Fn P f args w fun u _ => u = v

theorem run_pf0 {f : FuncId} {l : List Value} {v : Value} (h : step fn.ntmps ops i ρ = some (some d, callN (.func (.func f) #[] #[]) l))
    (hb : ∀ args w, (callFunc f args).run P w = .ok (.enter f args) w) (hc : Pf P f l.toArray v)
    (hk : Run P fn w0 (.ops ops todo :: k) ((d, v) :: ρ) H R) : Run P fn w0 (.ops ops (i :: todo) :: k) ρ H R :=
  run_call (Q := fun u _ => u = v) h (Array.append_empty) hb (fun w _ => hc w) fun u hh hu => by
    subst hu
    exact fun a w h1 h2 h3 h4 => hk a w h1 h2 h3 h4.drop

theorem pf_of_below {f : FuncId} {args : Array Value} {v : Value} (h : ∀ w, Calls P f args w fun e w' => e = .returned v ∧ Below w.heap.size w w') : Pf P f args v := fun w =>
  (h w).mono fun _ _ ⟨he, hb⟩ => ⟨v, [], he, ⟨hb, fun _ _ h => by simp at h, fun _ _ _ _ _ h => by simp at h⟩, rfl⟩
theorem below_of_pf {f : FuncId} {args : Array Value} {v : Value} (h : Pf P f args v) (w : World) : Calls P f args w fun e w' => e = .returned v ∧ Below w.heap.size w w' :=
  (h w).mono fun _ _ ⟨_, _, he, hs, hv⟩ => ⟨hv ▸ he, hs.below⟩

theorem ne_of_beq_f {a b : Int} (h : (a == b) = false) : a ≠ b := beq_eq_false_iff_ne.1 h
theorem eq_of_bne_f {a b : Int} (h : (a != b) = false) : a = b := by simpa using h
theorem ne_of_bne_t {a b : Int} (h : (a != b) = true) : a ≠ b := bne_iff_ne.1 h

theorem run_pf {f : FuncId} {l : List Value} {cap : Array Value} {v : Value} (h : step fn.ntmps ops i ρ = some (some d, callN (.func (.func f) #[] cap) l)) 
    (hb : ∀ args w, (callFunc f args).run P w = .ok (.enter f args) w) (hc : Pf P f (l.toArray ++ cap) v)
    (hk : Run P fn w0 (.ops ops todo :: k) ((d, v) :: ρ) H R) : Run P fn w0 (.ops ops (i :: todo) :: k) ρ H R :=
  run_call h rfl hb (fun w _ => hc w) fun u hh hu => by
    subst hu
    exact fun a w h1 h2 h3 h4 => hk a w h1 h2 h3 h4.drop

theorem pf_of_run {f : FuncId} {args : Array Value} {c : Code} {v : Value} (hf : P.funcs[f]? = some fn) (hb : fn.body = some c) (hn : Nat.ble args.size fn.ntmps = true)
    (h : ∀ w, Run P fn w [.code c] (envOf args.toList 0) [] fun u _ => u = v) : Pf P f args v := fun w => fn_of_run hf hb hn (h w)
end
end Go.Proofs.YthapghhmeicbnaaDoor
