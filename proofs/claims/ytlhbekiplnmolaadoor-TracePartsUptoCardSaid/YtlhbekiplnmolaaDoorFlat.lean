/- Plain types (integers, bools, strings, arrays and structs of such): what their cells are, how two such values compare, how an argument of such a type is opened. Over any program. -/
import Derived.WalkKit
import Derived.ProofKit
import Derived.OpenShut
import Derived.Laws.StructEq
import Derived.DeepKeys
namespace Go.Proofs.YtlhbekiplnmolaaDoor
open Go.ChangeShapes Go.WideShapes Go.ChangeAt Go.RowKit

inductive Lk where
  | b
  | i (k : IntKind)
  | s
  deriving DecidableEq, Inhabited

/-- What one cell holds, told as data. -/
def Lk.lit : Lk → Value → Option Lit
  | .b, .bool x => some (.bool x)
  | .i k, .int k' n => if k' = k ∧ (Lit.int k n).wf = true then some (.int k n) else none
  | .s, .string x => if x.size ≤ maxLen then some (.string x.data.toList) else none
  | _, _ => none

/-- The cells of such kinds, as data. -/
def fits : List Lk → List Value → Option (List Lit)
  | [], [] => some []
  | k :: ks, v :: vs => (k.lit v).bind fun x => (fits ks vs).map fun r => x :: r
  | _, _ => none

theorem fits_length {ks : List Lk} {vs : List Value} {ls : List Lit} (h : fits ks vs = some ls) : vs.length = ks.length := by
  induction ks generalizing vs ls with
  | nil => cases vs <;> simp_all [fits]
  | cons k ks ih =>
    cases vs with
    | nil => simp [fits] at h
    | cons v vs =>
      simp only [fits, Option.bind_eq_some_iff, Option.map_eq_some_iff] at h
      obtain ⟨x, _, r, h2, _⟩ := h
      simp [ih h2]

theorem fits_append {ks js : List Lk} {vs us : List Value} {ls ms : List Lit} (h : fits ks vs = some ls) (g : fits js us = some ms) : fits (ks ++ js) (vs ++ us) = some (ls ++ ms) := by
  induction ks generalizing vs ls with
  | nil => cases vs <;> simp_all [fits]
  | cons k ks ih =>
    cases vs with
    | nil => simp [fits] at h
    | cons v vs =>
      simp only [fits, Option.bind_eq_some_iff, Option.map_eq_some_iff] at h
      obtain ⟨x, h1, r, h2, rfl⟩ := h
      simp [fits, h1, ih h2]

theorem fits_split {ks js : List Lk} {vs : List Value} {ls : List Lit} (h : fits (ks ++ js) vs = some ls) :
    ∃ l1 l2, ls = l1 ++ l2 ∧ fits ks (vs.take ks.length) = some l1 ∧ fits js (vs.drop ks.length) = some l2 := by
  induction ks generalizing vs ls with
  | nil => exact ⟨[], ls, rfl, rfl, by simpa using h⟩
  | cons k ks ih =>
    cases vs with
    | nil => simp [fits] at h
    | cons v vs =>
      rw [List.cons_append] at h
      simp only [fits, Option.bind_eq_some_iff, Option.map_eq_some_iff] at h
      obtain ⟨x, h1, r, h2, rfl⟩ := h
      obtain ⟨l1, l2, rfl, g1, g2⟩ := ih h2
      exact ⟨x :: l1, l2, rfl, by simp [fits, h1, g1], by simpa using g2⟩

/-- A struct's fields, one behind the other. -/
def flatGo (P : Program) (F : TypeId → Option (List Lk)) (off : Nat) : List Field → Option (List Lk)
  | [] => some []
  | f :: fs => (F f.type).bind fun l => if f.offset = off ∧ P.cellsOf f.type = l.length then (flatGo P F (off + l.length) fs).map fun r => l ++ r else none

/-- The kinds of a plain type's cells, in order; the layout is looked at besides. -/
def flat (P : Program) : Nat → TypeId → Option (List Lk)
  | 0, _ => none
  | d + 1, t =>
    match P.underlying t with
    | some .bool => if P.cellsOf t = 1 then some [.b] else none
    | some (.int k) => if P.cellsOf t = 1 then some [.i k] else none
    | some .string => if P.cellsOf t = 1 then some [.s] else none
    | some (.array n e) => (flat P d e).bind fun l => if P.cellsOf e = l.length ∧ P.cellsOf t = n * l.length then some ((List.replicate n l).flatten) else none
    | some (.struct fs) => if fs.all (·.name != "_") then (flatGo P (flat P d) 0 fs.toList).bind fun l => if P.cellsOf t = l.length then some l else none else none
    | _ => none

theorem flatten_replicate_length {α : Type} (n : Nat) (l : List α) : (List.replicate n l).flatten.length = n * l.length := by simp

theorem flat_cells {P : Program} {d : Nat} {t : TypeId} {ks : List Lk} (h : flat P d t = some ks) : P.cellsOf t = ks.length := by
  cases d with
  | zero => simp [flat] at h
  | succ d =>
    rw [flat] at h
    split at h
    · split at h <;> simp_all
      subst h; rfl
    · split at h <;> simp_all
      subst h; rfl
    · split at h <;> simp_all
      subst h; rfl
    · simp only [Option.bind_eq_some_iff] at h
      obtain ⟨l, _, h⟩ := h
      split at h <;> simp_all
      subst h; simp
    · split at h
      · simp only [Option.bind_eq_some_iff] at h
        obtain ⟨l, _, h⟩ := h
        split at h <;> simp_all
      · cases h
    · cases h

theorem fits_rows {l : List Lk} {n : Nat} {vs : List Value} {ls : List Lit} (h : fits (List.replicate n l).flatten vs = some ls) :
    ∃ rs : List (List Lit), rs.length = n ∧ ls = rs.flatten ∧ ∀ i, i < n → ∃ r, rs[i]? = some r ∧ fits l ((vs.drop (i * l.length)).take l.length) = some r := by
  induction n generalizing vs ls with
  | zero =>
    refine ⟨[], rfl, ?_, fun i hi => by omega⟩
    cases vs <;> simp_all [fits]
  | succ n ih =>
    rw [List.replicate_succ, List.flatten_cons] at h
    obtain ⟨l1, l2, rfl, g1, g2⟩ := fits_split h
    obtain ⟨rs, hl, rfl, hr⟩ := ih g2
    refine ⟨l1 :: rs, by simp [hl], by simp, fun i hi => ?_⟩
    cases i with
    | zero => exact ⟨l1, rfl, by simpa using g1⟩
    | succ i =>
      obtain ⟨r, h1, h2⟩ := hr i (by omega)
      refine ⟨r, by simpa using h1, ?_⟩
      rw [List.drop_drop] at h2
      rw [show (i + 1) * l.length = l.length + i * l.length by rw [Nat.succ_mul]; omega]
      exact h2

theorem mapM_range_of {β : Type} (f : Nat → Option β) (n : Nat) (rs : List β) (hl : rs.length = n) (h : ∀ i, i < n → f i = rs[i]?) : (List.range n).mapM f = some rs := by
  induction n generalizing rs f with
  | zero => cases rs <;> simp_all
  | succ n ih =>
    cases rs with
    | nil => simp at hl
    | cons r rs =>
      rw [List.range_succ_eq_map, List.mapM_cons, h 0 (by omega)]
      have := ih (fun i => f (i + 1)) rs (by simpa using hl) (fun i hi => by rw [h (i + 1) (by omega)]; simp)
      rw [List.mapM_map]
      show (do let a ← some r; let b ← (List.range n).mapM fun i => f (i + 1); pure (a :: b)) = some (r :: rs)
      rw [this]
      rfl

/-- What such cells read as is what the model tells of a key. -/
theorem keyLits_flat {P : Program} : ∀ (d : Nat) (t : TypeId) (ks : List Lk) (cs : List Value) (ls : List Lit), flat P d t = some ks → fits ks cs = some ls → P.keyLits d t cs = some ls := by
  intro d
  induction d with
  | zero => intro t ks cs ls h; simp [flat] at h
  | succ d ih =>
    intro t ks cs ls h hf
    have hcl := flat_cells h
    have hlen := fits_length hf
    rw [flat] at h
    unfold Program.keyLits
    have leaf1 : ∀ {k : Lk}, ks = [k] → ∃ v x, cs = [v] ∧ k.lit v = some x ∧ ls = [x] := by
      intro k hk
      subst hk
      cases cs with
      | nil => simp [fits] at hf
      | cons v vs =>
        cases vs with
        | nil =>
          simp only [fits, Option.bind_eq_some_iff, Option.map_eq_some_iff] at hf
          obtain ⟨x, h1, r, h2, rfl⟩ := hf
          cases h2
          exact ⟨v, x, rfl, h1, rfl⟩
        | cons => simp at hlen
    cases hu : P.underlying t with
    | none => rw [hu] at h; cases h
    | some td =>
      rw [hu] at h
      clear hu
      cases td with
      | bool =>
        simp only at h
        split at h
        · obtain ⟨v, x, rfl, h1, rfl⟩ := leaf1 (Option.some.inj h).symm
          cases v <;> simp_all [Lk.lit]
        · cases h
      | int k =>
        simp only at h
        split at h
        · obtain ⟨v, x, rfl, h1, rfl⟩ := leaf1 (Option.some.inj h).symm
          cases v <;> simp [Lk.lit] at h1
          obtain ⟨⟨rfl, hw⟩, rfl⟩ := h1
          simp [hw]
        · cases h
      | string =>
        simp only at h
        split at h
        · obtain ⟨v, x, rfl, h1, rfl⟩ := leaf1 (Option.some.inj h).symm
          cases v <;> simp [Lk.lit] at h1
          obtain ⟨hw, rfl⟩ := h1
          simp [hw]
        · cases h
      | array n e =>
        simp only [Option.bind_eq_some_iff] at h
        obtain ⟨l, hl, h⟩ := h
        split at h
        · rename_i hc
          have h := Option.some.inj h
          subst h
          obtain ⟨rs, hn, rfl, hr⟩ := fits_rows hf
          have : (List.range n).mapM (fun i => P.keyLits d e ((cs.drop (i * P.cellsOf e)).take (P.cellsOf e))) = some rs := by
            refine mapM_range_of _ n rs hn (fun i hi => ?_)
            obtain ⟨r, h1, h2⟩ := hr i hi
            rw [h1, hc.1]
            exact ih e l _ _ hl h2
          have hcs : cs.length = P.cellsOf t := by rw [hlen, hcl]
          simp only [if_pos hcs, this]
          rfl
        · cases h
      | struct fs =>
        simp only at h
        split at h
        · rename_i hn
          simp only [Option.bind_eq_some_iff] at h
          obtain ⟨l, hl, h⟩ := h
          split at h
          · have h := Option.some.inj h
            subst h
            have key : ∀ (fl : List Field) (off : Nat) (ks : List Lk) (ls : List Lit), flatGo P (flat P d) off fl = some ks → fits ks (cs.drop off) = some ls →
                ∃ rs : List (List Lit), fl.mapM (fun f => P.keyLits d f.type ((cs.drop f.offset).take (P.cellsOf f.type))) = some rs ∧ rs.flatten = ls := by
              intro fl
              induction fl with
              | nil =>
                intro off ks ls hk hfi
                simp [flatGo] at hk
                subst hk
                cases hc : cs.drop off with
                | nil => rw [hc] at hfi; simp [fits] at hfi; exact ⟨[], by simp, by simpa using hfi⟩
                | cons a b => rw [hc] at hfi; simp [fits] at hfi
              | cons f fl ihf =>
                intro off ks ls hk hfi
                simp only [flatGo, Option.bind_eq_some_iff] at hk
                obtain ⟨l1, h1, hk⟩ := hk
                split at hk
                · rename_i ho
                  simp only [Option.map_eq_some_iff] at hk
                  obtain ⟨r1, h2, rfl⟩ := hk
                  obtain ⟨m1, m2, rfl, g1, g2⟩ := fits_split hfi
                  rw [List.drop_drop] at g2
                  obtain ⟨rs, e1, rfl⟩ := ihf _ _ _ h2 g2
                  refine ⟨m1 :: rs, ?_, by simp⟩
                  rw [List.mapM_cons, e1, ho.1, ho.2, ih f.type l1 _ _ h1 g1]
                  rfl
                · cases hk
            obtain ⟨rs, e1, rfl⟩ := key fs.toList 0 l ls hl (by simpa using hf)
            have hcs : cs.length = P.cellsOf t := by rw [hlen, hcl]
            simp only [hcs, hn, and_self, if_true, e1]
            rfl
          · cases h
        · cases h
      | _ => simp at h

theorem run_equal_flat {P : Program} {m d : Nat} {t : TypeId} {ks : List Lk} {x y : Value} {la lb : List Lit} (hk : P.keyTypeAt m t = true) (hm : m ≤ 10000) (hf : flat P d t = some ks) (fx : x.formed P t = true) (fy : y.formed P t = true)
    (hx : fits ks x.cells.toList = some la) (hy : fits ks y.cells.toList = some lb) {b : Bool} (hb : b = true ↔ la = lb) (w : World) : (Op.equalIn 10000 t x y).run P w = .ok b w := by
  obtain ⟨r, hr, hi⟩ := run_equalIn_deep (10000 - m) m t hk w d d x y la lb fx fy (keyLits_flat d t ks _ _ hf hx) (keyLits_flat d t ks _ _ hf hy)
  rw [show 10000 - m + m = 10000 by omega] at hr
  rw [hr]
  congr 1
  rw [Bool.eq_iff_iff, hi, hb]

/-- The cells of an aggregate of a plain type compare as what they read as does. -/
theorem run_eql_flat {P : Program} {m d : Nat} {t : TypeId} {ks : List Lk} {xs ys : Array Value} {la lb : List Lit} (hk : P.keyTypeAt m t = true) (hm : m ≤ 10000) (hf : flat P d t = some ks) (fx : (Value.agg xs).formed P t = true) (fy : (Value.agg ys).formed P t = true)
    (hx : fits ks xs.toList = some la) (hy : fits ks ys.toList = some lb) {b : Bool} (hb : b = true ↔ la = lb) (w : World) : (binOp .eql t (.agg xs) (.agg ys)).run P w = .ok (.bool b) w := by
  rw [run_eql_struct, run_equal_flat hk hm hf fx fy hx hy hb]
  rfl
theorem run_neq_flat {P : Program} {m d : Nat} {t : TypeId} {ks : List Lk} {xs ys : Array Value} {la lb : List Lit} (hk : P.keyTypeAt m t = true) (hm : m ≤ 10000) (hf : flat P d t = some ks) (fx : (Value.agg xs).formed P t = true) (fy : (Value.agg ys).formed P t = true)
    (hx : fits ks xs.toList = some la) (hy : fits ks ys.toList = some lb) {b : Bool} (hb : b = true ↔ la = lb) (w : World) : (binOp .neq t (.agg xs) (.agg ys)).run P w = .ok (.bool (!b)) w := by
  rw [run_neq_struct, run_equal_flat hk hm hf fx fy hx hy hb]
  rfl

section
variable {H : Type} {enc : TypeId × Value → H} {P : Program} {w : World} {base : Nat} {spare : Nat → Bool} {held : Bool}
theorem rows_fit {l : List Lk} {n : Nat} {vs : List Value} (hlen : vs.length = n * l.length) (h : ∀ i, i < n → ∃ r, fits l ((vs.drop (i * l.length)).take l.length) = some r) :
    ∃ ls, fits (List.replicate n l).flatten vs = some ls := by
  induction n generalizing vs with
  | zero =>
    have : vs = [] := List.length_eq_zero_iff.1 (by simpa using hlen)
    subst this
    exact ⟨[], rfl⟩
  | succ n ih =>
    obtain ⟨r, hr⟩ := h 0 (by omega)
    have hl : l.length ≤ vs.length := by rw [hlen, Nat.succ_mul]; omega
    obtain ⟨ls, h2⟩ := ih (vs := vs.drop l.length) (by rw [List.length_drop, hlen, Nat.succ_mul]; omega) (fun i hi => by
      obtain ⟨r, hr⟩ := h (i + 1) (by omega)
      refine ⟨r, ?_⟩
      rw [List.drop_drop, ← hr, show (i + 1) * l.length = l.length + i * l.length by rw [Nat.succ_mul]; omega])
    refine ⟨r ++ ls, ?_⟩
    rw [List.replicate_succ, List.flatten_cons]
    have := fits_append (by simpa using hr) h2
    rwa [List.take_append_drop] at this

/-- An argument of a plain type: its cells are of its kinds. -/
theorem fits_of_trod : ∀ (d : Nat) (t : TypeId) (ks : List Lk) (fuel : Nat) (cs : List Value) (x : DataW H × List MemPlace), flat P d t = some ks → DataW.trod enc P w base spare held fuel t cs = some x → ∃ ls, fits ks cs = some ls := by
  intro d
  induction d with
  | zero => intro t ks fuel cs x h; simp [flat] at h
  | succ d ih =>
    intro t ks fuel cs x h ht
    have hcl := flat_cells h
    rw [flat] at h
    cases hu : P.underlying t with
    | none => rw [hu] at h; cases h
    | some td =>
      rw [hu] at h
      cases td with
      | bool =>
        simp only at h
        split at h
        · have h := Option.some.inj h
          subst h
          obtain ⟨b, rfl, _⟩ := DataW.trod_bool hu ht
          exact ⟨_, rfl⟩
        · cases h
      | int k =>
        simp only at h
        split at h
        · have h := Option.some.inj h
          subst h
          obtain ⟨n, rfl, _, hw⟩ := DataW.trod_int hu ht
          exact ⟨_, by simp [fits, Lk.lit, hw]; rfl⟩
        · cases h
      | string =>
        simp only at h
        split at h
        · have h := Option.some.inj h
          subst h
          obtain ⟨s, rfl, _, hw⟩ := DataW.trod_string hu ht
          exact ⟨_, by simp [fits, Lk.lit, hw]; rfl⟩
        · cases h
      | array n e =>
        simp only [Option.bind_eq_some_iff] at h
        obtain ⟨l, hl, h⟩ := h
        split at h
        · rename_i hc
          have h := Option.some.inj h
          subst h
          obtain ⟨xs, m, _, _, hlen, hxl, hx⟩ := DataW.trod_array hu ht
          refine rows_fit (by rw [hlen, hc.2]) (fun i hi => ?_)
          have h1 := hx i hi
          rw [hc.1, List.getElem?_eq_getElem (by omega)] at h1
          exact ih e l m _ _ hl h1
        · cases h
      | struct fs =>
        simp only at h
        split at h
        · simp only [Option.bind_eq_some_iff] at h
          obtain ⟨l, hl, h⟩ := h
          split at h
          · rename_i hc
            have h := Option.some.inj h
            subst h
            obtain ⟨xs, m, _, _, hlen, hxl, hx⟩ := DataW.trod_struct hu ht
            have key : ∀ (fl : List Field) (off : Nat) (ks : List Lk), (∀ f ∈ fl, ∃ x, DataW.trod enc P w base spare held m f.type ((cs.drop f.offset).take (P.cellsOf f.type)) = some x) → flatGo P (flat P d) off fl = some ks → cs.length = off + ks.length →
                ∃ ls, fits ks (cs.drop off) = some ls := by
              intro fl
              induction fl with
              | nil =>
                intro off ks _ hk hle
                simp [flatGo] at hk
                subst hk
                rw [List.drop_eq_nil_of_le (by simp at hle; omega)]
                exact ⟨[], rfl⟩
              | cons f fl ihf =>
                intro off ks hall hk hle
                simp only [flatGo, Option.bind_eq_some_iff] at hk
                obtain ⟨l1, h1, hk⟩ := hk
                split at hk
                · rename_i ho
                  simp only [Option.map_eq_some_iff] at hk
                  obtain ⟨r1, h2, rfl⟩ := hk
                  obtain ⟨x1, hx1⟩ := hall f (List.mem_cons_self ..)
                  rw [ho.1, ho.2] at hx1
                  obtain ⟨m1, g1⟩ := ih f.type l1 m _ _ h1 hx1
                  rw [List.length_append] at hle
                  obtain ⟨m2, g2⟩ := ihf (off + l1.length) r1 (fun g hg => hall g (List.mem_cons_of_mem _ hg)) h2 (by omega)
                  refine ⟨m1 ++ m2, ?_⟩
                  rw [← List.drop_drop] at g2
                  have := fits_append g1 g2
                  rwa [List.take_append_drop] at this
                · cases hk
            obtain ⟨ls, hfit⟩ := key fs.toList 0 l (fun f hf => by
              obtain ⟨i, hi⟩ := List.getElem?_of_mem hf
              rw [Array.getElem?_toList] at hi
              have h1 := hx i f hi
              have hlt : i < fs.size := (Array.getElem?_eq_some_iff.1 hi).1
              rw [List.getElem?_eq_getElem (by omega)] at h1
              exact ⟨_, h1⟩) hl (by omega)
            exact ⟨ls, by simpa using hfit⟩
          · cases h
        · cases h
      | _ => simp at h
end

end Go.Proofs.YtlhbekiplnmolaaDoor
