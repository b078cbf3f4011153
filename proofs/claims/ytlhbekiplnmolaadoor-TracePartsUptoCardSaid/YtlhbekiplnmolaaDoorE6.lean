/- The machine's side, told once: indices, numbers, comparisons. -/
import Derived.Test.YtlhbekiplnmolaaDoorE5
import Derived.Test.YtlhbekiplnmolaaDoorFlat
import Derived.Laws.BitsAllLaws
set_option linter.unusedVariables false
set_option linter.unusedSimpArgs false
namespace Go.Proofs.YtlhbekiplnmolaaDoor
open Go.RowKit

section
variable {P : Program} {n0 : Nat} {b : Base n0} {M : Fz} {φ : Nat → Value} {ξ : Nat → Option Nat} {H : AStore} {w : World} {ρ : AEnv}

theorem addz (g off q : Nat) : (⟨g, off, none⟩ : Addr).add q = ⟨g, off + q, none⟩ := by
  unfold Addr.add
  split
  · simp_all
  · rfl

/-! ### Indices -/
def arrB (P : Program) (T : Nat) : Option (Nat × Nat) := match P.underlying T with
  | some (.array n e) => some (n, e)
  | _ => none
def slB (P : Program) (T : Nat) : Option Nat := match P.underlying T with
  | some (.slice e) => some e
  | _ => none
theorem arrB_ok {T n e : Nat} (h : arrB P T = some (n, e)) : P.underlying T = some (.array n e) := by
  unfold arrB at h
  split at h
  · simp only [Option.some.injEq, Prod.mk.injEq] at h
    obtain ⟨rfl, rfl⟩ := h
    assumption
  · cases h
theorem slB_ok {T e : Nat} (h : slB P T = some e) : P.underlying T = some (.slice e) := by
  unfold slB at h
  split at h
  · simp only [Option.some.injEq] at h
    subst h
    assumption
  · cases h

theorem run_indexArr {T e : Nat} {len sz : Nat} {k : IntKind} {n : Int} {g off : Nat} (h : arrB P T = some (len, e)) (hs : szB P e sz = true) (hn : 0 ≤ n ∧ n < len) (w : World) :
    (Instr.indexAt T (.pointer (some ⟨g, off, none⟩)) (.int k n)).run P w = .ok (.pointer (some ⟨g, off + n.toNat * sz, none⟩)) w := by
  have hu := arrB_ok h
  have : ¬ len ≤ n.toNat := by omega
  simp [Instr.indexAt, asIntOf, run_underlying hu, Instr.sureAddr, hn, szB_ok hs, addz]
theorem run_indexSl {T e : Nat} {len cap sz : Nat} {k : IntKind} {n : Int} {g off : Nat} (h : slB P T = some e) (hs : szB P e sz = true) (hn : 0 ≤ n ∧ n < len) (w : World) :
    (Instr.indexAt T (.slice (some ⟨g, off, none⟩) len cap) (.int k n)).run P w = .ok (.pointer (some ⟨g, off + n.toNat * sz, none⟩)) w := by
  have hu := slB_ok h
  simp [Instr.indexAt, asIntOf, run_underlying hu, hn, szB_ok hs, addz]

theorem ia_ptr {T e : Nat} {len sz L off : Nat} {p q : Path} {k : IntKind} {n : Int} {u : Value} (hu : RelV P M φ (.ptr L p off) u) (h : arrB P T = some (len, e)) (hs : szB P e sz = true) (hn : 0 ≤ n ∧ n < len) (w : World) :
    ∃ y, (Instr.indexAt T u (.int k n)).run P w = .ok y w ∧ RelV P M φ (.ptr L q (off + n.toNat * sz)) y := by
  obtain ⟨g, h1, rfl⟩ := hu
  exact ⟨_, run_indexArr h hs hn w, g, h1, rfl⟩

theorem rep_elem {s : Sh} {xs : List s.ty} {cs : List Value} {q : Nat} (hf : s.fixed = true) (h : RepL (RepC P φ s M) cs xs) (hq : q < xs.length) : RepC P φ s M ((cs.drop (q * s.size)).take s.size) (xs.getD q s.dflt) ∧ q * s.size + s.size ≤ cs.length := by
  obtain ⟨pre, c, post, rfl, e2, h3, _⟩ := RepL_split (fun c y hc => rep_len hf hc) (d := s.dflt) h hq
  have hl := rep_len hf h3
  refine ⟨?_, by simp only [List.length_append]; omega⟩
  rw [← e2, ← hl, List.append_assoc, List.drop_left, List.take_left]
  exact h3

theorem cl_drop {cs : List Value} {g off q n : Nat} (h : Cl M (some ⟨g, off, none⟩) cs) : Cl M (some ⟨g, off + q, none⟩) ((cs.drop q).take n) := by
  intro j hj
  simp only [List.length_take, List.length_drop] at hj
  obtain ⟨b', o', c', k1, k2, k3⟩ := h (q + j) (by omega)
  simp only [Option.some.injEq, Addr.mk.injEq, and_true] at k1
  obtain ⟨rfl, rfl⟩ := k1
  refine ⟨_, _, c', rfl, k2, ?_⟩
  rw [Nat.add_assoc, k3, List.getElem?_take_of_lt (by omega), List.getElem?_drop]

theorem ia_fp {T e : Nat} {len m : Nat} {s : Sh} {x : List s.ty} {k : IntKind} {n : Int} {u : Value} (hu : RelV P M φ (.fp (.arr m s) x) u) (h : arrB P T = some (len, e)) (hm : Nat.beq len m = true) (hs : szB P e s.size = true) (hn : 0 ≤ n ∧ n < len) (w : World) :
    ∃ y, (Instr.indexAt T u (.int k n)).run P w = .ok y w ∧ RelV P M φ (.fp s (x.getD n.toNat s.dflt)) y := by
  obtain ⟨hf, g, off, cs, rfl, h1, h2, h3⟩ := hu
  have hm := Nat.eq_of_beq_eq_true hm
  have hf' : s.fixed = true := hf
  obtain ⟨h4, _⟩ := rep_elem (q := n.toNat) hf' h3 (by omega)
  exact ⟨_, run_indexArr h hs hn w, hf', g, _, _, rfl, cl_drop h1, h4⟩

theorem ia_sl {T e : Nat} {s : Sh} {xs : List s.ty} {k : IntKind} {n : Int} {u : Value} (hu : RelV P M φ (.v (.sl s) xs) u) (h : slB P T = some e) (hs : szB P e s.size = true) (h0 : Nat.beq s.size 0 = false) (hn : 0 ≤ n ∧ n < xs.length) (w : World) :
    ∃ y, (Instr.indexAt T u (.int k n)).run P w = .ok y w ∧ RelV P M φ (.fp s (xs.getD n.toNat s.dflt)) y := by
  obtain ⟨hf, cs, rfl, A, len, cap, vs, rfl, h1, h2, h3, h4⟩ := hu
  have hf' : s.fixed = true := by simp only [Sh.fixed, Bool.and_eq_true] at hf; exact hf.1
  obtain ⟨h5, h6⟩ := rep_elem (q := n.toNat) hf' h4 (by omega)
  have h00 : s.size ≠ 0 := fun e => by rw [e] at h0; simp at h0
  obtain ⟨g, off, c, rfl, _⟩ := h3 (n.toNat * s.size) (by omega)
  exact ⟨_, run_indexSl h hs (by omega) w, hf', g, _, _, rfl, cl_drop h3, h5⟩

theorem ia_row (hc : Core P b M φ ξ H w) {T e L : Nat} {T' : Nat} {s : Sh} {xs : List s.ty} {k : IntKind} {n : Int} {u : Value} (hu : RelV P M φ (.row L) u) (hl : look H L = some (.row T' s xs)) (h : slB P T = some e) (hs : szB P e s.size = true) (hn : 0 ≤ n ∧ n < xs.length) :
    ∃ y, (Instr.indexAt T u (.int k n)).run P w = .ok y w ∧ RelV P M φ (.ptr L [.i n.toNat] (n.toNat * s.size)) y := by
  obtain ⟨rfl, _⟩ := hu
  obtain ⟨hf, A, cap, h1, h2⟩ := hc.items L _ (look_mem hl)
  rcases h2 with ⟨_, rfl, _⟩ | ⟨g, c, h2, rfl, _⟩
  · exact absurd hn.2 (by simp; omega)
  · rw [h1]
    refine ⟨_, run_indexSl h hs hn w, g, by rw [h1]; rfl, by rw [Nat.zero_add]⟩

theorem ix_arr {T e : Nat} {len m : Nat} {s : Sh} {x : List s.ty} {k : IntKind} {n : Int} {u : Value} (hu : RelV P M φ (.v (.arr m s) x) u) (h : arrB P T = some (len, e)) (hm : Nat.beq len m = true) (hT : okT P e s = true) (hn : 0 ≤ n ∧ n < len) (w : World) :
    ∃ y, (Instr.index T u (.int k n)).run P w = .ok y w ∧ RelV P M φ (loaded ⟨s, x.getD n.toNat s.dflt⟩) y := by
  obtain ⟨hf, cs, rfl, h1, h2⟩ := hu
  have hm := Nat.eq_of_beq_eq_true hm
  have hf' : s.fixed = true := hf
  obtain ⟨pre, c, post, rfl, e2, h3, _⟩ := RepL_split (fun c y hc => rep_len hf' hc) (d := s.dflt) (j := n.toNat) h2 (by omega)
  have hsz : szB P e s.size = true := by simp only [okT, Bool.and_eq_true] at hT; exact hT.1.1.1
  refine ⟨mkV s c, ?_, loaded_ok (v := ⟨s, _⟩) hf' h3⟩
  have := run_part (P := P) (pre := pre) (post := post) hT (rep_len hf' h3) w
  rw [e2] at this
  have e : mkV (.arr m s) (pre ++ c ++ post) = .agg (pre ++ c ++ post).toArray := rfl
  rw [e]
  simp only [Instr.index, asIntOf, Sem.run_bind, Sem.run_pure, Result.andThen_ok, run_underlying (arrB_ok h), if_pos hn, szB_ok hsz, this]

theorem ix_str {T : Nat} {l : Str} {k : IntKind} {n : Int} {u : Value} (hu : RelV P M φ (.v .str l) u) (h : P.underlying T = some .string) (hn : 0 ≤ n ∧ n < l.length) (w : World) :
    ∃ y, (Instr.index T u (.int k n)).run P w = .ok y w ∧ RelV P M φ (.v (.int .u8) (((l.getD n.toNat 0).toNat : Nat) : Int)) y := by
  obtain ⟨_, cs, rfl, rfl, hl⟩ := hu
  have hlt : n.toNat < l.length := by omega
  have hb : (bs l)[n.toNat]? = some (l.getD n.toNat 0) := by
    have : n.toNat < (bs l).size := by rw [bs_size]; exact hlt
    rw [getElem?_pos (bs l) n.toNat this]
    congr 1
    simp only [bs, List.getD_eq_getElem?_getD, List.getElem?_eq_getElem hlt, Option.getD_some]
    exact (List.getElem_toArray _)
  have e : mkV .str [.string (bs l)] = .string (bs l) := rfl
  refine ⟨_, ?_, rfl, _, rfl, rfl, ?_⟩
  · rw [e]
    simp [Instr.index, asIntOf, run_underlying h, hn.1, hb]
    rfl
  · have := (l.getD n.toNat 0).toNat_lt
    constructor
    · show (0 : Int) ≤ _; omega
    · show _ ≤ (255 : Int); omega

/-! ### Numbers -/
def intA (op : BinOp) (k : IntKind) (x y : Int) : Option (Int × List Prop) :=
  match op with
  | .add => some (k.wrap (x + y), [])
  | .sub => some (k.wrap (x - y), [])
  | .mul => some (k.wrap (x * y), [])
  | .quo => some (k.wrap (x.tdiv y), [y ≠ 0])
  | .rem => some (x.tmod y, [y ≠ 0])
  | .and => some (bits .and k x y, [])
  | .or => some (bits .or k x y, [])
  | .xor => some (bits .xor k x y, [])
  | .andNot => some (bits .andNot k x y, [])
  | _ => none
def cmpA (op : BinOp) (x y : Int) : Option Bool :=
  match op with
  | .eql => some (x == y)
  | .neq => some (x != y)
  | .lss => some (decide (x < y))
  | .leq => some (decide (x ≤ y))
  | .gtr => some (decide (x > y))
  | .geq => some (decide (x ≥ y))
  | _ => none
def eqN (op : BinOp) (t : TypeId) (x y : Operand) (a b : Value) : Sem Value := do eqGuard op t x y a b; binOp op t a b

theorem has_zero (k : IntKind) : k.min ≤ 0 ∧ 0 ≤ k.max := by cases k <;> decide
theorem has_tmod {k : IntKind} {x y : Int} (h : k.has x) : k.has (x.tmod y) := by
  have hz := has_zero k
  obtain ⟨h1, h2⟩ := h
  rcases Int.le_total 0 x with h0 | h0
  · have a := Int.tmod_nonneg (a := x) y h0
    have b : x.tmod y ≤ x := by
      obtain ⟨m, rfl⟩ := Int.eq_ofNat_of_zero_le h0
      rcases Int.le_total 0 y with hy | hy
      · obtain ⟨n, rfl⟩ := Int.eq_ofNat_of_zero_le hy
        rw [← Int.ofNat_tmod]
        exact Int.ofNat_le.2 (Nat.mod_le _ _)
      · obtain ⟨n, hn⟩ := Int.eq_ofNat_of_zero_le (show 0 ≤ -y by omega)
        obtain rfl : y = -(n : Int) := by omega
        rw [Int.tmod_neg, ← Int.ofNat_tmod]
        exact Int.ofNat_le.2 (Nat.mod_le _ _)
    exact ⟨by omega, by omega⟩
  · obtain ⟨m, hm⟩ := Int.eq_ofNat_of_zero_le (show 0 ≤ -x by omega)
    obtain rfl : x = -(m : Int) := by omega
    have c : -(m : Int) ≤ (-(m : Int)).tmod y ∧ (-(m : Int)).tmod y ≤ 0 := by
      rw [Int.neg_tmod]
      rcases Int.le_total 0 y with hy | hy
      · obtain ⟨n, rfl⟩ := Int.eq_ofNat_of_zero_le hy
        rw [← Int.ofNat_tmod]
        have := Nat.mod_le m n
        omega
      · obtain ⟨n, hn⟩ := Int.eq_ofNat_of_zero_le (show 0 ≤ -y by omega)
        obtain rfl : y = -(n : Int) := by omega
        rw [Int.tmod_neg, ← Int.ofNat_tmod]
        have := Nat.mod_le m n
        omega
    exact ⟨by omega, by omega⟩
theorem has_bits (op : BinOp) (k : IntKind) (x y : Int) : k.has (bits op k x y) := has_wrap _ _

theorem run_intA {op : BinOp} {t : TypeId} {x y : Operand} {k : IntKind} {m n r : Int} {C : List Prop} (h : intA op k m n = some (r, C)) (hC : AllP C) (hm : k.has m) (w : World) : (eqN op t x y (.int k m) (.int k n)).run P w = .ok (.int k r) w ∧ k.has r := by
  unfold intA at h
  cases op <;> simp only [Option.some.injEq, Prod.mk.injEq, reduceCtorEq] at h
  all_goals obtain ⟨rfl, rfl⟩ := h
  all_goals refine ⟨?_, by first | exact has_wrap _ _ | exact has_bits _ _ _ _ | exact has_tmod hm⟩
  all_goals first
    | (have h0 : n ≠ 0 := hC.1; simp [eqN, eqGuard, binOp, Op.intDiv, h0]; done)
    | (simp [eqN, eqGuard, binOp, Op.intArith]; done)
    | (simp [eqN, eqGuard, binOp, intBits_and, intBits_or, intBits_xor, intBits_andNot]; done)
theorem run_cmpA {op : BinOp} {t : TypeId} {x y : Operand} {k : IntKind} {m n : Int} {r : Bool} (h : cmpA op m n = some r) (w : World) : (eqN op t x y (.int k m) (.int k n)).run P w = .ok (.bool r) w := by
  unfold cmpA at h
  cases op <;> simp only [Option.some.injEq, reduceCtorEq] at h
  all_goals subst h
  all_goals simp [eqN, eqGuard, binOp, Op.intCmp, bne]

theorem has_shr {k : IntKind} {x : Int} {j : Nat} (h : k.has x) : k.has (x.fdiv (2 ^ j)) := by
  have hz := has_zero k
  obtain ⟨h1, h2⟩ := h
  have hp : (0 : Int) < 2 ^ j := Int.pow_pos (by decide)
  have e : x.fdiv (2 ^ j) = x / 2 ^ j := Int.fdiv_eq_ediv_of_nonneg _ (by omega)
  rw [e]
  have a := Int.ediv_mul_le x (Int.ne_of_gt hp)
  rcases Int.le_total 0 x with h0 | h0
  · have b : x / 2 ^ j ≤ x := Int.ediv_le_self _ h0
    have c := Int.ediv_nonneg h0 (Int.le_of_lt hp)
    exact ⟨by omega, by omega⟩
  · have b : x / 2 ^ j ≤ 0 := by
      have := Int.ediv_le_ediv hp h0
      simpa using this
    have c : x ≤ x / 2 ^ j := by
      rw [Int.le_ediv_iff_mul_le hp]
      have : x * 2 ^ j ≤ x * 1 := Int.mul_le_mul_of_nonpos_left h0 (by omega)
      omega
    exact ⟨by omega, by omega⟩
def shA (op : BinOp) (k : IntKind) (x y : Int) : Option Int :=
  match op with
  | .shl => some (k.wrap (x * 2 ^ min y.toNat k.bits))
  | .shr => some (x.fdiv (2 ^ min y.toNat k.bits))
  | _ => none
theorem run_shA {op : BinOp} {t : TypeId} {x y : Operand} {k j : IntKind} {m n r : Int} (h : shA op k m n = some r) (hn : 0 ≤ n) (hm : k.has m) (w : World) : (eqN op t x y (.int k m) (.int j n)).run P w = .ok (.int k r) w ∧ k.has r := by
  have h0 : ¬ n < 0 := by omega
  unfold shA at h
  cases op <;> simp only [Option.some.injEq, reduceCtorEq] at h
  all_goals subst h
  · exact ⟨by simp [eqN, eqGuard, binOp, Op.shift, h0], has_wrap _ _⟩
  · exact ⟨by simp [eqN, eqGuard, binOp, Op.shift, h0], has_shr hm⟩
end
end Go.Proofs.YtlhbekiplnmolaaDoor
