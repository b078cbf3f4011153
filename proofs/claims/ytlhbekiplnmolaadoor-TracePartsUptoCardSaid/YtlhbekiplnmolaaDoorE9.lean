/- The machine's side, told once: single operations that only read, as a function of what is known. -/
import Derived.Test.YtlhbekiplnmolaaDoorE8
set_option linter.unusedVariables false
set_option linter.unusedSimpArgs false
namespace Go.Proofs.YtlhbekiplnmolaaDoor
open Go.RowKit

abbrev PR := Option (AVal × List Prop)

def ldA (P : Program) (H : AStore) (T : TypeId) : AVal → PR
  | .ptr L p off => match look H L with
    | some it => match getP it.tv.1 it.tv.2 p with
      | some v => if rowOk it p && okT P T v.1 then (if noI p && Nat.beq (offP it.tv.1 p) off then some (loaded v, []) else some (loaded v, [offP it.tv.1 p = off, okP it.tv.1 it.tv.2 p])) else none
      | none => none
    | none => none
  | .fp s x => if okT P T s then some (loaded ⟨s, x⟩, []) else none
  | _ => none
def fdA (P : Program) (T f : Nat) : AVal → PR
  | .v (.st s) x => match fldB P T f with
    | some (m, ft, fo) => match getP (.st s) x (fPath m f) with
      | some v => if noI (fPath m f) && Nat.beq (offP (.st s) (fPath m f)) fo && okT P ft v.1 then some (loaded v, []) else none
      | none => none
    | none => none
  | _ => none
def faA (P : Program) (T f : Nat) : AVal → PR
  | .ptr L p off => match fldB P T f with
    | some (m, ft, fo) => if szB P ft (P.cellsOf ft) && !Nat.beq (P.cellsOf ft) 0 then some (.ptr L (p ++ fPath m f) (off + fo), []) else none
    | none => none
  | .fp s x => match fldB P T f with
    | some (m, ft, fo) => match getP s x (fPath m f) with
      | some v => if szB P ft (P.cellsOf ft) && !Nat.beq (P.cellsOf ft) 0 && noI (fPath m f) && Nat.beq (offP s (fPath m f)) fo then some (.fp v.1 v.2, []) else none
      | none => none
    | none => none
  | _ => none
def iaA (P : Program) (H : AStore) (T : Nat) : AVal → AVal → PR
  | .ptr L p off, .v (.int _) n => match arrB P T with
    | some (len, e) => if szB P e (P.cellsOf e) then some (.ptr L (p ++ [.i (Int.toNat n)]) (off + Int.toNat n * P.cellsOf e), [(0 : Int) ≤ n ∧ (n : Int) < ((len : Nat) : Int)]) else none
    | none => none
  | .fp (.arr m s) x, .v (.int _) n => match arrB P T with
    | some (len, e) => if Nat.beq len m && szB P e s.size then some (.fp s (List.getD x (Int.toNat n) s.dflt), [(0 : Int) ≤ n ∧ (n : Int) < ((len : Nat) : Int)]) else none
    | none => none
  | .v (.sl s) xs, .v (.int _) n => match slB P T with
    | some e => if szB P e s.size && !Nat.beq s.size 0 then some (.fp s (List.getD xs (Int.toNat n) s.dflt), [(0 : Int) ≤ n ∧ (n : Int) < ((List.length xs : Nat) : Int)]) else none
    | none => none
  | .row L, .v (.int _) n => match look H L with
    | some (.row _ s xs) => match slB P T with
      | some e => if szB P e s.size then some (.ptr L [.i (Int.toNat n)] (Int.toNat n * s.size), [(0 : Int) ≤ n ∧ (n : Int) < ((List.length xs : Nat) : Int)]) else none
      | none => none
    | _ => none
  | .sub L sz lo m, .v (.int _) n => match look H L with
    | some (.row _ s xs) => match slB P T with
      | some e => if szB P e s.size && Nat.beq sz s.size then some (.ptr L [.i (lo + Int.toNat n)] ((lo + Int.toNat n) * s.size), [(0 : Int) ≤ n ∧ (n : Int) < ((m : Nat) : Int)]) else none
      | none => none
    | _ => none
  | _, _ => none
def isStr (P : Program) (T : Nat) : Bool := match P.underlying T with | some .string => true | _ => false
def isIntT (P : Program) (T : Nat) : Option IntKind := match P.underlying T with | some (.int k) => some k | _ => none
def hasU (P : Program) (T : Nat) : Bool := (P.underlying T).isSome
def ixA (P : Program) (T : Nat) : AVal → AVal → PR
  | .v (.arr m s) x, .v (.int _) n => match arrB P T with
    | some (len, e) => if Nat.beq len m && okT P e s then some (loaded ⟨s, List.getD x (Int.toNat n) s.dflt⟩, [(0 : Int) ≤ n ∧ (n : Int) < ((len : Nat) : Int)]) else none
    | none => none
  | .v .str l, .v (.int _) n => if isStr P T then some (.v (.int .u8) (((List.getD l (Int.toNat n) 0).toNat : Nat) : Int), [(0 : Int) ≤ n ∧ (n : Int) < ((List.length l : Nat) : Int)]) else none
  | _, _ => none
def boI (op : BinOp) (k k' : IntKind) (m n : Int) : PR :=
  match shA op k m n with
  | some r => some (.v (.int k) r, [(0 : Int) ≤ n])
  | none => if k = k' then match cmpA op m n with
    | some r => some (.v .bool r, [])
    | none => match intA op k m n with
      | some (r, C) => some (.v (.int k) r, C)
      | none => none
    else none
def ptrN : AVal → Option Bool
  | .nilp => some true
  | .ptr _ _ _ => some false
  | .fp _ _ => some false
  | _ => none
def ptrT (P : Program) (t : TypeId) : Bool := match P.underlying t with
  | some (.pointer _) => true
  | _ => false
def boA (P : Program) (op : BinOp) (t : TypeId) : AVal → AVal → PR
  | .v (.int k) m, .v (.int k') n => boI op k k' m n
  | .v .str l, .v .str m => match strA op l m with
    | some (r, C) => some (strR r, C)
    | none => none
  | .v .bool l, .v .bool m => match P.underlying t with
    | some .bool => match op with
      | .eql => some (.v .bool (l == m), [])
      | .neq => some (.v .bool (!(l == m)), [])
      | _ => none
    | _ => none
  | .v (.st s) u, .v (.st s') v => if h : s' = s then if eqTB P t (.st s) then match op with
      | .eql => some (.v .bool (Sh.eqb (.st s) u (h ▸ v)), [])
      | .neq => some (.v .bool (!Sh.eqb (.st s) u (h ▸ v)), [])
      | _ => none
      else none
    else none
  | .v (.arr n s) u, .v (.arr n' s') v => if h : n' = n ∧ s' = s then if eqTB P t (.arr n s) then match op with
      | .eql => some (.v .bool (Sh.eqb (.arr n s) u (h.1 ▸ h.2 ▸ v)), [])
      | .neq => some (.v .bool (!Sh.eqb (.arr n s) u (h.1 ▸ h.2 ▸ v)), [])
      | _ => none
      else none
    else none
  | α, .nilp => match ptrN α with
    | some z => if ptrT P t then match op with
      | .eql => some (.v .bool z, [])
      | .neq => some (.v .bool (!z), [])
      | _ => none
      else none
    | none => none
  | _, _ => none
def uoA (op : UnOp) : AVal → PR
  | .v .bool x => match op with
    | .not => some (.v .bool (!x), [])
    | _ => none
  | .v (.int k) n => match op with
    | .neg => some (.v (.int k) (k.wrap (0 - n)), [])
    | _ => none
  | _ => none
def cvA (P : Program) (s t : TypeId) : AVal → PR
  | .v (.int _) n => match isIntT P t with
    | some k => if hasU P s then some (.v (.int k) (k.wrap n), []) else none
    | none => none
  | .v .str l => if isStr P s && isStr P t then some (.v .str l, []) else none
  | _ => none
def okNil : AVal → Bool
  | .ptr _ _ _ => true
  | .fp _ _ => true
  | .clo _ _ => true
  | _ => false
def evO (P : Program) (ρ : AEnv) : Option Operand → Option (Option AVal)
  | none => some none
  | some x => match evA P ρ 0 x with
    | some α => some (some α)
    | none => none
def slA (P : Program) (T : TypeId) : AVal → Option AVal → Option AVal → PR
  | .v .str l, o1, o2 => match bndA 0 o1, bndA (List.length l) o2 with
    | some (lo, C1), some (hi, C2) => if isStr P T then some (.v .str ((List.take hi l).drop lo), C1 ++ (C2 ++ [lo ≤ hi, hi ≤ List.length l])) else none
    | _, _ => none
  | .v (.sl s) xs, o1, o2 => match bndA 0 o1, bndA (List.length xs) o2 with
    | some (lo, C1), some (hi, C2) => match slB P T with
      | some e => if szB P e s.size then some (.v (.sl s) ((List.take hi xs).drop lo), C1 ++ (C2 ++ [lo ≤ hi, hi ≤ List.length xs])) else none
      | none => none
    | _, _ => none
  | _, _, _ => none
def evL (P : Program) (ρ : AEnv) : List (TypeId × Operand) → Option (List AVal)
  | [] => some []
  | (t, x) :: l => match evA P ρ t x, evL P ρ l with
    | some α, some r => some (α :: r)
    | _, _ => none
def evPs (P : Program) (ρ : AEnv) (ft : Nat → TypeId) : List (Nat × Operand) → Option (List (Nat × AVal))
  | [] => some []
  | (i, x) :: l => match evA P ρ (ft i) x, evPs P ρ ft l with
    | some α, some r => some ((i, α) :: r)
    | _, _ => none
def fieldT (P : Program) (T : TypeId) (i : Nat) : TypeId := match P.underlying T with
  | some (.struct fs) => match fs[i]? with | some F => F.type | none => 0
  | some (.array _ e) => e
  | some (.slice e) => e
  | _ => 0
def biA (P : Program) (H : AStore) (ts : List TypeId) : Builtin → List AVal → PR
  | .len, [α] => match ts with
    | [T] => if lenTB P T α then match lenA H α with
      | some n => some (.v (.int .i64) n, [])
      | none => none
      else none
    | _ => none
  | .max, [.v (.int k) x, .v (.int k') y] => if k' = k then some (.v (.int k) (mx x y), []) else none
  | .min, [.v (.int k) x, .v (.int k') y] => if k' = k then some (.v (.int k) (mn x y), []) else none
  | .max, [.v (.int k) x, .v (.int k') y, .v (.int k'') z] => if k' = k ∧ k'' = k then some (.v (.int k) (mx (mx x y) z), []) else none
  | _, _ => none

def vN (s : Sem Value) : Sem Next := do pure (.value (← s))
def uN (s : Sem Unit) : Sem Next := do s; pure .skip
theorem vN_run {P : Program} {s : Sem Value} {v : Value} {w w' : World} (h : s.run P w = .ok v w') : (vN s).run P w = .ok (.value v) w' := by simp [vN, h]
theorem uN_run {P : Program} {s : Sem Unit} {w w' : World} (h : s.run P w = .ok () w') : (uN s).run P w = .ok .skip w' := by simp [uN, h]

section
variable {P : Program} {n0 : Nat} {b : Base n0} {M : Fz} {φ : Nat → Value} {ξ : Nat → Option Nat} {H : AStore} {w : World} {ρ : AEnv}

theorem ldA_ok (hc : Core P b M φ ξ H w) {T : TypeId} {α β : AVal} {C : List Prop} {u : Value} (hu : RelV P M φ α u) (h : ldA P H T α = some (β, C)) (hC : AllP C) : ∃ y, (Instr.loadAt T u).run P w = .ok y w ∧ RelV P M φ β y := by
  unfold ldA at h
  split at h
  · rename_i L p off
    split at h
    · rename_i it hl
      split at h
      · rename_i v hg
        split at h
        · rename_i hh
          simp only [Bool.and_eq_true] at hh
          split at h
          · rename_i hn
            simp only [Bool.and_eq_true] at hn
            simp only [Option.some.injEq, Prod.mk.injEq] at h
            obtain ⟨rfl, rfl⟩ := h
            exact ld_ptr hc hl hu hh.1 hg hh.2 (Nat.eq_of_beq_eq_true hn.2) (okP_noI hn.1 hg)
          · simp only [Option.some.injEq, Prod.mk.injEq] at h
            obtain ⟨rfl, rfl⟩ := h
            exact ld_ptr hc hl hu hh.1 hg hh.2 hC.1 hC.2.1
        · cases h
      · cases h
    · cases h
  · split at h
    · rename_i hh
      simp only [Option.some.injEq, Prod.mk.injEq] at h
      obtain ⟨rfl, rfl⟩ := h
      exact ld_fp hc hu hh
    · cases h
  · cases h

theorem fdA_ok {T f : Nat} {α β : AVal} {C : List Prop} {u : Value} (hu : RelV P M φ α u) (h : fdA P T f α = some (β, C)) (w : World) : ∃ y, (Instr.field T u f).run P w = .ok y w ∧ RelV P M φ β y := by
  unfold fdA at h
  split at h
  · split at h
    · rename_i m ft fo hF
      split at h
      · rename_i v hg
        split at h
        · rename_i hh
          simp only [Bool.and_eq_true] at hh
          simp only [Option.some.injEq, Prod.mk.injEq] at h
          obtain ⟨rfl, rfl⟩ := h
          exact fd_val hu hF hg hh.1.1 hh.1.2 hh.2 w
        · cases h
      · cases h
    · cases h
  · cases h

theorem faA_ok {T f : Nat} {α β : AVal} {C : List Prop} {u : Value} (hu : RelV P M φ α u) (h : faA P T f α = some (β, C)) (w : World) : ∃ y, (Instr.fieldAt T u f).run P w = .ok y w ∧ RelV P M φ β y := by
  unfold faA at h
  split at h
  · split at h
    · rename_i m ft fo hF
      split at h
      · rename_i hh
        simp only [Bool.and_eq_true, Bool.not_eq_true'] at hh
        simp only [Option.some.injEq, Prod.mk.injEq] at h
        obtain ⟨rfl, rfl⟩ := h
        exact fa_ptr hu hF hh.1 hh.2 w _
      · cases h
    · cases h
  · split at h
    · rename_i m ft fo hF
      split at h
      · rename_i v hg
        split at h
        · rename_i hh
          simp only [Bool.and_eq_true, Bool.not_eq_true'] at hh
          simp only [Option.some.injEq, Prod.mk.injEq] at h
          obtain ⟨rfl, rfl⟩ := h
          exact fa_fp hu hF hh.1.1.1 hh.1.1.2 hg hh.1.2 hh.2 w
        · cases h
      · cases h
    · cases h
  · cases h

theorem int_val {k : IntKind} {n : Int} {u : Value} (h : RelV P M φ (.v (.int k) n) u) : u = .int k n ∧ k.has n := by
  obtain ⟨_, cs, rfl, rfl, h2⟩ := h
  exact ⟨rfl, h2⟩
theorem str_val {l : Str} {u : Value} (h : RelV P M φ (.v .str l) u) : u = .string (bs l) ∧ l.length ≤ maxLen := by
  obtain ⟨_, cs, rfl, rfl, h2⟩ := h
  exact ⟨rfl, h2⟩
theorem bool_val {x : Bool} {u : Value} (h : RelV P M φ (.v .bool x) u) : u = .bool x := by
  obtain ⟨_, cs, rfl, h2⟩ := h
  simp only [RepC] at h2
  subst h2
  rfl
theorem rel_int {k : IntKind} {n : Int} (h : k.has n) : RelV P M φ (.v (.int k) n) (.int k n) := ⟨rfl, _, rfl, rfl, h⟩
theorem rel_bool {x : Bool} : RelV P M φ (.v .bool x) (.bool x) := ⟨rfl, _, rfl, rfl⟩
theorem rel_str {l : Str} (h : l.length ≤ maxLen) : RelV P M φ (.v .str l) (.string (bs l)) := ⟨rfl, _, rfl, rfl, h⟩

theorem iaA_ok (hc : Core P b M φ ξ H w) {T : Nat} {α γ β : AVal} {C : List Prop} {u v : Value} (hu : RelV P M φ α u) (hv : RelV P M φ γ v) (h : iaA P H T α γ = some (β, C)) (hC : AllP C) : ∃ y, (Instr.indexAt T u v).run P w = .ok y w ∧ RelV P M φ β y := by
  unfold iaA at h
  split at h
  · obtain ⟨rfl, _⟩ := int_val hv
    split at h
    · rename_i len e hT
      split at h
      · rename_i hh
        simp only [Option.some.injEq, Prod.mk.injEq] at h
        obtain ⟨rfl, rfl⟩ := h
        exact ia_ptr hu hT hh hC.1 w
      · cases h
    · cases h
  · obtain ⟨rfl, _⟩ := int_val hv
    split at h
    · rename_i len e hT
      split at h
      · rename_i hh
        simp only [Bool.and_eq_true] at hh
        simp only [Option.some.injEq, Prod.mk.injEq] at h
        obtain ⟨rfl, rfl⟩ := h
        exact ia_fp hu hT hh.1 hh.2 hC.1 w
      · cases h
    · cases h
  · obtain ⟨rfl, _⟩ := int_val hv
    split at h
    · rename_i e hT
      split at h
      · rename_i hh
        simp only [Bool.and_eq_true, Bool.not_eq_true'] at hh
        simp only [Option.some.injEq, Prod.mk.injEq] at h
        obtain ⟨rfl, rfl⟩ := h
        exact ia_sl hu hT hh.1 hh.2 hC.1 w
      · cases h
    · cases h
  · obtain ⟨rfl, _⟩ := int_val hv
    split at h
    · rename_i e' s xs hl
      split at h
      · rename_i e hT
        split at h
        · rename_i hh
          simp only [Option.some.injEq, Prod.mk.injEq] at h
          obtain ⟨rfl, rfl⟩ := h
          exact ia_row hc hu hl hT hh hC.1
        · cases h
      · cases h
    · cases h
  · obtain ⟨rfl, _⟩ := int_val hv
    split at h
    · rename_i L sz lo m _ nn _ _ e' s xs hl
      split at h
      · rename_i e hT
        split at h
        · rename_i hh
          simp only [Bool.and_eq_true] at hh
          simp only [Option.some.injEq, Prod.mk.injEq] at h
          obtain ⟨rfl, rfl⟩ := h
          have hsz := Nat.eq_of_beq_eq_true hh.2
          subst hsz
          have hn : (0 : Int) ≤ nn ∧ nn < ((m : Nat) : Int) := hC.1
          obtain ⟨A, m', c, q1, q2, q3, B, rfl, q4⟩ := hu
          obtain ⟨hf, A', cap, h1, h2⟩ := hc.items L _ (look_mem hl)
          rw [h1] at q1
          simp only [Value.slice.injEq] at q1
          obtain ⟨rfl, rfl, rfl⟩ := q1
          have h0 : (0 : Int) < ((m : Nat) : Int) := Int.lt_of_le_of_lt hn.1 hn.2
          have hlt : lo < cap := by omega
          rcases h2 with ⟨_, rfl, rfl, rfl⟩ | ⟨g, c, h2, rfl, _⟩
          · omega
          · rw [q4.1 (by omega)]
            have ea : Option.map (fun a : Addr => a.add (lo * s.size)) (some ⟨g, 0, none⟩) = some ⟨g, lo * s.size, none⟩ := by
              by_cases z : lo * s.size = 0 <;> simp [Addr.add, z]
            rw [ea]
            refine ⟨_, run_indexSl hT hh.1 hn w, g, by rw [h1]; rfl, by rw [Nat.add_mul]⟩
        · cases h
      · cases h
    · cases h
  · cases h

theorem isStr_ok {T : Nat} (h : isStr P T = true) : P.underlying T = some .string := by
  unfold isStr at h
  split at h
  · assumption
  · cases h
theorem isIntT_ok {T : Nat} {k : IntKind} (h : isIntT P T = some k) : P.underlying T = some (.int k) := by
  unfold isIntT at h
  split at h
  · simp only [Option.some.injEq] at h; subst h; assumption
  · cases h

theorem ixA_ok {T : Nat} {α γ β : AVal} {C : List Prop} {u v : Value} (hu : RelV P M φ α u) (hv : RelV P M φ γ v) (h : ixA P T α γ = some (β, C)) (hC : AllP C) (w : World) : ∃ y, (Instr.index T u v).run P w = .ok y w ∧ RelV P M φ β y := by
  unfold ixA at h
  split at h
  · obtain ⟨rfl, _⟩ := int_val hv
    split at h
    · rename_i len e hT
      split at h
      · rename_i hh
        simp only [Bool.and_eq_true] at hh
        simp only [Option.some.injEq, Prod.mk.injEq] at h
        obtain ⟨rfl, rfl⟩ := h
        exact ix_arr hu hT hh.1 hh.2 hC.1 w
      · cases h
    · cases h
  · obtain ⟨rfl, _⟩ := int_val hv
    split at h
    · rename_i hh
      simp only [Option.some.injEq, Prod.mk.injEq] at h
      obtain ⟨rfl, rfl⟩ := h
      exact ix_str hu (isStr_ok hh) hC.1 w
    · cases h
  · cases h

theorem eq_ptrN0 {P : Program} (D : Nat) {t e : TypeId} (ht : P.underlying t = some (.pointer e)) (p : Option Addr) (w : World) : (Op.equalIn (D + 1) t (.pointer p) (.pointer none)).run P w = .ok p.isNone w := by
  cases p <;> simp [Op.equalIn, run_underlying ht]
theorem eq_ptrN {P : Program} {t : TypeId} (ht : ptrT P t = true) (p : Option Addr) (w : World) : (Op.equal t (.pointer p) (.pointer none)).run P w = .ok p.isNone w := by
  unfold ptrT at ht
  split at ht
  · rename_i e hu
    exact eq_ptrN0 9999 hu p w
  · cases ht
theorem boA_ok {op : BinOp} {t : TypeId} {x y : Operand} {α γ β : AVal} {C : List Prop} {u v : Value} (hu : RelV P M φ α u) (hv : RelV P M φ γ v) (h : boA P op t α γ = some (β, C)) (hC : AllP C) (w : World) : ∃ r, (eqN op t x y u v).run P w = .ok r w ∧ RelV P M φ β r := by
  unfold boA at h
  split at h
  · rename_i k m k' n
    obtain ⟨rfl, h1⟩ := int_val hu
    obtain ⟨rfl, h2⟩ := int_val hv
    unfold boI at h
    split at h
    · rename_i r hr
      simp only [Option.some.injEq, Prod.mk.injEq] at h
      obtain ⟨rfl, rfl⟩ := h
      have := run_shA (P := P) (t := t) (x := x) (y := y) (j := k') hr hC.1 h1 w
      exact ⟨_, this.1, rel_int this.2⟩
    · split at h
      · rename_i hk
        subst hk
        split at h
        · rename_i r hr
          simp only [Option.some.injEq, Prod.mk.injEq] at h
          obtain ⟨rfl, rfl⟩ := h
          exact ⟨_, run_cmpA hr w, rel_bool⟩
        · split at h
          · rename_i r C' hr
            simp only [Option.some.injEq, Prod.mk.injEq] at h
            obtain ⟨rfl, rfl⟩ := h
            have := run_intA (P := P) (t := t) (x := x) (y := y) hr hC h1 w
            exact ⟨_, this.1, rel_int this.2⟩
          · cases h
      · cases h
  · obtain ⟨rfl, h1⟩ := str_val hu
    obtain ⟨rfl, h2⟩ := str_val hv
    split at h
    · rename_i r C' hr
      simp only [Option.some.injEq, Prod.mk.injEq] at h
      obtain ⟨rfl, rfl⟩ := h
      exact run_strA hr hC w
    · cases h
  · have e1 := bool_val hu -- rel_boolop
    have e2 := bool_val hv
    subst e1 e2
    split at h
    · rename_i l m _ hT
      have := run_equal_bool (P := P) w t l m hT
      cases op <;> simp only [Option.some.injEq, Prod.mk.injEq, reduceCtorEq] at h
      all_goals obtain ⟨rfl, rfl⟩ := h
      · exact ⟨_, by simp [eqN, eqGuard, binOp, this], rel_bool⟩
      · exact ⟨_, by simp [eqN, eqGuard, binOp, this], rel_bool⟩
    · cases h
  · split at h
    · rename_i hs
      subst hs
      split at h
      · rename_i hT
        have := run_eqS (op := op) (x := x) (y := y) hT hu hv w
        split at h
        · simp only [Option.some.injEq, Prod.mk.injEq] at h
          obtain ⟨rfl, rfl⟩ := h
          exact ⟨_, this.1 rfl, rel_bool⟩
        · simp only [Option.some.injEq, Prod.mk.injEq] at h
          obtain ⟨rfl, rfl⟩ := h
          exact ⟨_, this.2 rfl, rel_bool⟩
        · cases h
      · cases h
    · cases h
  · split at h
    · rename_i hs
      obtain ⟨hs1, hs2⟩ := hs
      subst hs1 hs2
      split at h
      · rename_i hT
        have := run_eqS (op := op) (x := x) (y := y) hT hu hv w
        split at h
        · simp only [Option.some.injEq, Prod.mk.injEq] at h
          obtain ⟨rfl, rfl⟩ := h
          exact ⟨_, this.1 rfl, rel_bool⟩
        · simp only [Option.some.injEq, Prod.mk.injEq] at h
          obtain ⟨rfl, rfl⟩ := h
          exact ⟨_, this.2 rfl, rel_bool⟩
        · cases h
      · cases h
    · cases h
  · split at h
    · rename_i z hz
      split at h
      · rename_i hT
        have hp : ∃ p : Option Addr, u = .pointer p ∧ p.isNone = z := by
          unfold ptrN at hz
          split at hz <;> simp only [Option.some.injEq, reduceCtorEq] at hz
          · subst hz; exact ⟨none, hu, rfl⟩
          · obtain ⟨g, _, h2⟩ := hu; subst hz; exact ⟨_, h2, rfl⟩
          · obtain ⟨_, g, off, cs, h2, _⟩ := hu; subst hz; exact ⟨_, h2, rfl⟩
        obtain ⟨p, rfl, rfl⟩ := hp
        have hv : v = .pointer none := hv
        subst hv
        have hq := eq_ptrN (P := P) hT p w
        split at h
        · simp only [Option.some.injEq, Prod.mk.injEq] at h
          obtain ⟨rfl, rfl⟩ := h
          exact ⟨_, by simp [eqN, eqGuard, binOp, hq], rel_bool⟩
        · simp only [Option.some.injEq, Prod.mk.injEq] at h
          obtain ⟨rfl, rfl⟩ := h
          exact ⟨_, by simp [eqN, eqGuard, binOp, hq], rel_bool⟩
        · cases h
      · cases h
    · cases h
  · cases h

theorem uoA_ok {op : UnOp} {α β : AVal} {C : List Prop} {u : Value} (hu : RelV P M φ α u) (h : uoA op α = some (β, C)) (w : World) : ∃ r, (Op.unary op u).run P w = .ok r w ∧ RelV P M φ β r := by
  unfold uoA at h
  split at h
  · obtain rfl := bool_val hu
    split at h
    · simp only [Option.some.injEq, Prod.mk.injEq] at h
      obtain ⟨rfl, rfl⟩ := h
      exact ⟨_, rfl, rel_bool⟩
    · cases h
  · obtain ⟨rfl, _⟩ := int_val hu
    split at h
    · simp only [Option.some.injEq, Prod.mk.injEq] at h
      obtain ⟨rfl, rfl⟩ := h
      exact ⟨_, by simp [Op.unary, Op.intArith], rel_int (by first | exact has_wrap _ _ | simpa using has_wrap k (0 - _))⟩
    · cases h
  · cases h

theorem cvA_ok {s t : TypeId} {α β : AVal} {C : List Prop} {u : Value} (hu : RelV P M φ α u) (h : cvA P s t α = some (β, C)) (w : World) : ∃ r, (convert s t u).run P w = .ok r w ∧ RelV P M φ β r := by
  unfold cvA at h
  split at h
  · obtain ⟨rfl, _⟩ := int_val hu
    split at h
    · rename_i k hk
      split at h
      · rename_i hs
        simp only [Option.some.injEq, Prod.mk.injEq] at h
        obtain ⟨rfl, rfl⟩ := h
        obtain ⟨d, hd⟩ := Option.isSome_iff_exists.1 hs
        exact ⟨_, cv_int hd (isIntT_ok hk) w, rel_int (has_wrap _ _)⟩
      · cases h
    · cases h
  · obtain ⟨rfl, h1⟩ := str_val hu
    split at h
    · rename_i hs
      simp only [Bool.and_eq_true] at hs
      simp only [Option.some.injEq, Prod.mk.injEq] at h
      obtain ⟨rfl, rfl⟩ := h
      refine ⟨_, ?_, rel_str h1⟩
      simp [convert, run_underlying (isStr_ok hs.1), run_underlying (isStr_ok hs.2)]
    · cases h
  · cases h

theorem slA_ok {T : TypeId} {α β : AVal} {o1 o2 : Option AVal} {v1 v2 : Option Value} {C : List Prop} {u : Value} (hu : RelV P M φ α u) (r1 : RelO P M φ o1 v1) (r2 : RelO P M φ o2 v2) (h : slA P T α o1 o2 = some (β, C)) (hC : AllP C) (w : World) : ∃ r, (Instr.sliceAt T u v1 v2 none).run P w = .ok r w ∧ RelV P M φ β r := by
  unfold slA at h
  split at h
  · split at h
    · rename_i lo C1 hi C2 e1 e2
      split at h
      · rename_i hT
        simp only [Option.some.injEq, Prod.mk.injEq] at h
        obtain ⟨rfl, rfl⟩ := h
        obtain ⟨c1, c⟩ := AllP.app hC
        obtain ⟨c2, c3, c4, _⟩ := AllP.app c
        exact sl_str hu (isStr_ok hT) r1 r2 e1 e2 c1 c2 c3 c4 w
      · cases h
    · cases h
  · split at h
    · rename_i lo C1 hi C2 e1 e2
      split at h
      · rename_i e hT
        split at h
        · rename_i hs
          simp only [Option.some.injEq, Prod.mk.injEq] at h
          obtain ⟨rfl, rfl⟩ := h
          obtain ⟨c1, c⟩ := AllP.app hC
          obtain ⟨c2, c3, c4, _⟩ := AllP.app c
          exact sl_sl hu hT hs r1 r2 e1 e2 c1 c2 c3 c4 w
        · cases h
      · cases h
    · cases h
  · cases h

theorem biA_ok (hc : Core P b M φ ξ H w) {ts : List TypeId} {bi : Builtin} {l : List AVal} {us : List Value} {β : AVal} {C : List Prop} {ty : TypeId} (hu : RelVs P M φ l us) (h : biA P H ts bi l = some (β, C)) :
    ∃ r, (match bi with | .len => Builtin.len_ ts.toArray ty us.toArray | .max => Builtin.max_ ts.toArray ty us.toArray | _ => Builtin.min_ ts.toArray ty us.toArray).run P w = .ok r w ∧ RelV P M φ β r ∧ (bi = .len ∨ bi = .max ∨ bi = .min) := by
  unfold biA at h
  split at h
  · obtain ⟨u, r, rfl, h1, rfl⟩ := hu
    split at h
    · split at h
      · rename_i hT
        split at h
        · rename_i n hn
          simp only [Option.some.injEq, Prod.mk.injEq] at h
          obtain ⟨rfl, rfl⟩ := h
          have := run_lenA (ty := ty) hc h1 hn hT
          exact ⟨_, this.1, rel_int this.2, .inl rfl⟩
        · cases h
      · cases h
    · cases h
  · obtain ⟨u, r, rfl, h1, u2, r2, rfl, h2, rfl⟩ := hu
    obtain ⟨rfl, k1⟩ := int_val h1
    obtain ⟨rfl, k2⟩ := int_val h2
    split at h
    · rename_i hk
      subst hk
      simp only [Option.some.injEq, Prod.mk.injEq] at h
      obtain ⟨rfl, rfl⟩ := h
      exact ⟨_, run_mx w, rel_int (has_mx k1 k2), .inr (.inl rfl)⟩
    · cases h
  · obtain ⟨u, r, rfl, h1, u2, r2, rfl, h2, rfl⟩ := hu
    obtain ⟨rfl, k1⟩ := int_val h1
    obtain ⟨rfl, k2⟩ := int_val h2
    split at h
    · rename_i hk
      subst hk
      simp only [Option.some.injEq, Prod.mk.injEq] at h
      obtain ⟨rfl, rfl⟩ := h
      exact ⟨_, run_mn w, rel_int (has_mn k1 k2), .inr (.inr rfl)⟩
    · cases h
  · obtain ⟨u, r, rfl, h1, u2, r2, rfl, h2, u3, r3, rfl, h3, rfl⟩ := hu
    obtain ⟨rfl, k1⟩ := int_val h1
    obtain ⟨rfl, k2⟩ := int_val h2
    obtain ⟨rfl, k3⟩ := int_val h3
    split at h
    · rename_i hk
      obtain ⟨e1, e2⟩ := hk
      subst e1 e2
      simp only [Option.some.injEq, Prod.mk.injEq] at h
      obtain ⟨rfl, rfl⟩ := h
      exact ⟨_, run_mx3 w, rel_int (has_mx (has_mx k1 k2) k3), .inr (.inl rfl)⟩
    · cases h
  · cases h

/-- Parts of rows: views. -/
def slR (P : Program) (H : AStore) (T : TypeId) : AVal → Option AVal → Option AVal → PR
  | .row L, o1, o2 => match look H L with
    | some (.row _ s xs) => match slB P T with
      | some e => if szB P e s.size then match bndA 0 o1, bndA (List.length xs) o2 with
          | some (lo, C1), some (hi, C2) => some (.sub L s.size lo (hi - lo), C1 ++ (C2 ++ [lo ≤ hi, hi ≤ List.length xs]))
          | _, _ => none
        else none
      | none => none
    | _ => none
  | .sub L sz l0 n, o1, o2 => match look H L with
    | some (.row _ s xs) => match slB P T with
      | some e => if szB P e sz then match bndA 0 o1, bndA n o2 with
          | some (lo, C1), some (hi, C2) => some (.sub L sz (l0 + lo) (hi - lo), C1 ++ (C2 ++ [lo ≤ hi, l0 + hi ≤ List.length xs]))
          | _, _ => none
        else none
      | none => none
    | _ => none
  | α, o1, o2 => slA P T α o1 o2
theorem slR_ok {H : AStore} {n0 : Nat} {b : Base n0} {ξ : Nat → Option Nat} {w : World} (hc : Core P b M φ ξ H w) {T : TypeId} {α β : AVal} {o1 o2 : Option AVal} {v1 v2 : Option Value} {C : List Prop} {u : Value} (hu : RelV P M φ α u) (r1 : RelO P M φ o1 v1) (r2 : RelO P M φ o2 v2) (h : slR P H T α o1 o2 = some (β, C)) (hC : AllP C) : ∃ r, (Instr.sliceAt T u v1 v2 none).run P w = .ok r w ∧ RelV P M φ β r := by
  have rowCap : ∀ {L : Nat} {e : TypeId} {s : Sh} {xs : List s.ty}, look H L = some (.row e s xs) → ∃ A cap, φ L = .slice A xs.length cap ∧ xs.length ≤ cap ∧ cap ≤ maxLen := by
    intro L e s xs hl
    obtain ⟨_, A, cap, h1, h2⟩ := hc.items L _ (look_mem hl)
    refine ⟨A, cap, h1, ?_⟩
    rcases h2 with ⟨_, rfl, rfl, rfl⟩ | ⟨g, c, _, _, _, h5, h6, _⟩
    · exact ⟨Nat.le_refl _, by simp [maxLen]⟩
    · exact ⟨h5, h6⟩
  unfold slR at h
  split at h
  · split at h
    · rename_i L e' s xs hl
      split at h
      · rename_i e hT
        split at h
        · rename_i hs
          split at h
          · rename_i lo C1 hi C2 e1 e2
            simp only [Option.some.injEq, Prod.mk.injEq] at h
            obtain ⟨rfl, rfl⟩ := h
            obtain ⟨c1, c⟩ := AllP.app hC
            obtain ⟨c2, c3, c4, _⟩ := AllP.app c
            obtain ⟨A, cap, k1, k2, k3⟩ := rowCap hl
            obtain ⟨rfl, _⟩ := hu
            have hb := run_bounds (P := P) (sl := true) (len := xs.length) (cap := cap) (run_bnd r1 e1 c1) (run_bnd r2 e2 c2) c3 (by omega) k2 w
            refine ⟨.slice (if cap = lo then A else A.map (·.add (lo * s.size))) (hi - lo) (cap - lo), ?_, A, xs.length, cap, k1, by omega, k3, _, rfl, fun hne => by rw [if_neg hne], fun hz => by rw [hz]; split <;> first | rfl | (cases A <;> simp [Addr.add])⟩
            rw [k1]
            simp [Instr.sliceAt, Instr.slice, run_underlying (slB_ok hT), hb, szB_ok hs]
          · cases h
        · cases h
      · cases h
    · cases h
  · split at h
    · rename_i L sz l0 n _ e' s xs hl
      split at h
      · rename_i e hT
        split at h
        · rename_i hs
          split at h
          · rename_i lo C1 hi C2 e1 e2
            simp only [Option.some.injEq, Prod.mk.injEq] at h
            obtain ⟨rfl, rfl⟩ := h
            obtain ⟨c1, c⟩ := AllP.app hC
            obtain ⟨c2, c3, c4, _⟩ := AllP.app c
            obtain ⟨A, cap, k1, k2, k3⟩ := rowCap hl
            obtain ⟨A', m, c', q1, q2, q3, B, rfl, q4⟩ := hu
            rw [k1] at q1
            simp only [Value.slice.injEq] at q1
            obtain ⟨rfl, rfl, rfl⟩ := q1
            have hb := run_bounds (P := P) (sl := true) (len := n) (cap := cap - l0) (run_bnd r1 e1 c1) (run_bnd r2 e2 c2) c3 (by omega) (by omega) w
            refine ⟨.slice (if cap - l0 = lo then B else B.map (·.add (lo * sz))) (hi - lo) (cap - l0 - lo), ?_, A, xs.length, cap, k1, by omega, k3, (if cap - l0 = lo then B else B.map (·.add (lo * sz))), by rw [Nat.sub_sub], fun hne => ?_, fun hz => ?_⟩
            · simp [Instr.sliceAt, Instr.slice, run_underlying (slB_ok hT), hb, szB_ok hs]
            · rw [if_neg (by omega), q4.1 (by omega)]
              cases A with
              | none => rfl
              | some a =>
                by_cases z1 : l0 * sz = 0 <;> by_cases z2 : lo * sz = 0 <;> simp [Addr.add, Nat.add_mul, Nat.add_assoc, z1, z2]
            · have h1 : l0 = 0 := by omega
              have h2 : lo = 0 := by omega
              rw [q4.2 h1, h2]
              split <;> first | rfl | (cases A <;> simp [Addr.add])
          · cases h
        · cases h
      · cases h
    · cases h
  · exact slA_ok hu r1 r2 h hC w
/-- x[lo:hi:mx] of a row, thrown away. -/
def slF (P : Program) (H : AStore) (T : TypeId) : AVal → Option AVal → AVal → AVal → PR
  | .row L, o1, .v (.int _) h, .v (.int _) m => match look H L with
    | some (.row _ s xs) => match slB P T with
      | some e => if szB P e s.size then match bndA 0 o1 with
          | some (lo, C1) => some (.v .any (), C1 ++ [(0 : Int) ≤ h, (0 : Int) ≤ m, lo ≤ Int.toNat h, Int.toNat h ≤ Int.toNat m, Int.toNat m ≤ List.length xs])
          | none => none
        else none
      | none => none
    | _ => none
  | _, _, _, _ => none
theorem slF_ok {H : AStore} {n0 : Nat} {b : Base n0} {ξ : Nat → Option Nat} {w : World} (hc : Core P b M φ ξ H w) {T : TypeId} {α β α2 α3 : AVal} {o1 : Option AVal} {v1 : Option Value} {v2 v3 : Value} {C : List Prop} {u : Value} (hu : RelV P M φ α u) (r1 : RelO P M φ o1 v1) (r2 : RelV P M φ α2 v2) (r3 : RelV P M φ α3 v3) (h : slF P H T α o1 α2 α3 = some (β, C)) (hC : AllP C) : ∃ r, (Instr.sliceAt T u v1 (some v2) (some v3)).run P w = .ok r w ∧ RelV P M φ β r := by
  unfold slF at h
  split at h
  · split at h
    · rename_i x1 o1 L k2 hh k3 m x2 e' s xs hl
      split at h
      · rename_i e hT
        split at h
        · rename_i hs
          split at h
          · rename_i lo C1 e1
            simp only [Option.some.injEq, Prod.mk.injEq] at h
            obtain ⟨rfl, rfl⟩ := h
            obtain ⟨c1, c2, c3, c4, c5, c6, _⟩ := AllP.app hC
            obtain ⟨_, A, cap, k1, kk⟩ := hc.items L _ (look_mem hl)
            have hcap : xs.length ≤ cap := by
              rcases kk with ⟨_, rfl, rfl, rfl⟩ | ⟨g, c, _, _, _, h5, h6, _⟩
              · exact Nat.le_refl _
              · exact h5
            obtain ⟨rfl, _⟩ := hu
            obtain ⟨rfl, _⟩ := int_val r2
            obtain ⟨rfl, _⟩ := int_val r3
            have sb : ∀ (k : IntKind) (m : Int) (y : Nat) (c : BoundsCode), 0 ≤ m → m.toNat ≤ y → (Instr.sliceBound (.int k m) y c).run P w = .ok m.toNat w := by
              intro k m y c h0 hy
              have : 0 ≤ m ∧ m ≤ y := ⟨h0, by omega⟩
              simp [Instr.sliceBound, asIntOf, this]
            have hb : (Instr.sliceBounds true xs.length cap v1 (some (.int k2 hh)) (some (.int k3 m))).run P w = .ok (lo, hh.toNat, m.toNat) w := by
              rcases run_bnd r1 e1 c1 with ⟨rfl, rfl⟩ | ⟨k, m', rfl, h0, rfl⟩
              · simp only [Instr.sliceBounds, Sem.run_bind, Sem.run_pure, Result.andThen_ok]
                rw [sb _ _ _ _ c3 (by omega)]; simp only [Result.andThen_ok]; rw [sb _ _ _ _ c2 (by omega)]; rfl
              · simp only [Instr.sliceBounds, Sem.run_bind, Sem.run_pure, Result.andThen_ok]
                rw [sb _ _ _ _ c3 (by omega)]; simp only [Result.andThen_ok]; rw [sb _ _ _ _ c2 (by omega)]; simp only [Result.andThen_ok]; rw [sb _ _ _ _ h0 (by omega)]; rfl
            refine ⟨.slice (if m.toNat = lo then A else A.map (·.add (lo * s.size))) (hh.toNat - lo) (m.toNat - lo), ?_, rfl, _, rfl, _, rfl, rfl⟩
            rw [k1]
            simp [Instr.sliceAt, Instr.slice, run_underlying (slB_ok hT), hb, szB_ok hs]
          · cases h
        · cases h
      · cases h
    · cases h
  · cases h
end
end Go.Proofs.YtlhbekiplnmolaaDoor
