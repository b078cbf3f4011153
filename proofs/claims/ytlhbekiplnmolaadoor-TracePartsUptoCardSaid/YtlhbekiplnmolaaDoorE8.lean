/- The machine's side, told once: values that are built, lengths, parts of slices, conversions. -/
import Derived.Test.YtlhbekiplnmolaaDoorE7
import Derived.Laws.Tables
import Derived.Great.BuildSlice
set_option linter.unusedVariables false
set_option linter.unusedSimpArgs false
namespace Go.Proofs.YtlhbekiplnmolaaDoor
open Go.RowKit

/-- What is laid into a part. -/
def putTV : AVal → Option TV
  | .v s x => some ⟨s, x⟩
  | .row L => some ⟨.ref, L⟩
  | .nilp => some ⟨.any, ()⟩
  | .clo _ _ => some ⟨.any, ()⟩
  | _ => none

def pthOk : Sh → Path → Bool
  | .arr n _, [.i k] => Nat.blt k n
  | _, p => noI p

/-- Parts laid one after the other; place: where the machine lays them. -/
def bldA (pth : Nat → Path) (place : Nat → Option (Nat × Nat)) : TV → List (Nat × AVal) → Option TV
  | tv, [] => some tv
  | tv, (i, α) :: l => match putTV α with
    | some u => match getP tv.1 tv.2 (pth i) with
      | some old => if Nat.beq old.1.size u.1.size && u.1.fixed && old.1.fixed && u.1.isV && pthOk tv.1 (pth i) && decide (place i = some (offP tv.1 (pth i), u.1.size)) then
          match setP tv.1 tv.2 (pth i) u with
          | some r => if r.1.fixed then bldA pth place r l else none
          | none => none
        else none
      | none => none
    | none => none

section
variable {P : Program} {n0 : Nat} {b : Base n0} {M : Fz} {φ : Nat → Value} {ξ : Nat → Option Nat} {H : AStore} {w : World} {ρ : AEnv}

theorem relV_put {α : AVal} {u : Value} {v : TV} (h : RelV P M φ α u) (hp : putTV α = some v) (hf : v.1.fixed = true) : ∃ cs, u = mkV v.1 cs ∧ RepC P φ v.1 M cs v.2 := by
  cases α <;> simp only [putTV, Option.some.injEq, reduceCtorEq] at hp
  · subst hp; obtain ⟨_, cs, h1, h2⟩ := h; exact ⟨cs, h1, h2⟩
  · subst hp; obtain ⟨rfl, h2⟩ := h; exact ⟨[_], rfl, rfl, h2⟩
  · subst hp; obtain ⟨us, rfl, _⟩ := h; exact ⟨[_], rfl, _, rfl, rfl⟩
  · subst hp; simp only [RelV] at h; subst h; exact ⟨[_], rfl, _, rfl, rfl⟩

theorem fold_put : ∀ (v : List Value) (j : Nat) (pre old post : List Value) (cells : Array Value), cells.toList = pre ++ old ++ post → old.length = v.length →
    ((v.zipIdx j).foldl (fun cs (x : Value × Nat) => cs.setIfInBounds (pre.length - j + x.2) x.1) cells).toList = pre ++ v ++ post ∨ pre.length < j := by
  intro v
  induction v with
  | nil => intro j pre old post cells h hl; left; have := List.length_eq_zero_iff.1 hl; subst this; simpa using h
  | cons x v ih =>
    intro j pre old post cells h hl
    rcases Nat.lt_or_ge pre.length j with hj | hj
    · exact .inr hj
    left
    cases old with
    | nil => simp at hl
    | cons o old =>
      simp only [List.zipIdx_cons, List.foldl_cons]
      have h1 : (cells.setIfInBounds (pre.length - j + j) x).toList = (pre ++ [x]) ++ old ++ post := by
        rw [Array.toList_setIfInBounds, h, show pre.length - j + j = pre.length by omega]
        simp
      have := ih (j + 1) (pre ++ [x]) old post _ h1 (by simpa using hl)
      simp only [List.length_append, List.length_singleton] at this
      rcases this with this | this
      · rw [show pre.length + 1 - (j + 1) = pre.length - j by omega] at this
        simpa using this
      · omega

theorem fill_one {place : Nat → Option (Nat × Nat)} {i off : Nat} {v : Value} {pre old post : List Value} {rest : List (Nat × Value)} {cells : Array Value} (hp : place i = some (off, v.cells.size)) (ho : pre.length = off) (hc : cells.toList = pre ++ old ++ post) (hl : old.length = v.cells.size) :
    Instr.fill place cells ((i, v) :: rest) = Instr.fill place (pre ++ v.cells.toList ++ post).toArray rest := by
  have hsz : ¬ off + v.cells.size > cells.size := by
    have := congrArg List.length hc
    simp only [Array.length_toList, List.length_append] at this
    omega
  simp only [Instr.fill, hp]
  rw [if_neg (by simp; omega)]
  congr 1
  apply Array.ext'
  have h := fold_put v.cells.toList 0 pre old post cells hc (by simpa using hl)
  rcases h with h | h
  · rw [← ho]
    simp only [Nat.sub_zero] at h
    rw [← h]
    congr 1
    rw [← Array.toList_zipIdx, Array.foldl_toList]
  · omega

theorem bld_ok {pth : Nat → Path} {place : Nat → Option (Nat × Nat)} : ∀ {l : List (Nat × AVal)} {vs : List (Nat × Value)} {tv r : TV} {cells : Array Value}, bldA pth place tv l = some r → tv.1.fixed = true → RepC P φ tv.1 M cells.toList tv.2 →
    (∀ (q : Nat) (α : Nat × AVal), l[q]? = some α → ∃ u, vs[q]? = some (α.1, u) ∧ RelV P M φ α.2 u) → vs.length = l.length → ∃ cells', Instr.fill place cells vs = some cells' ∧ RepC P φ r.1 M cells'.toList r.2 ∧ r.1.fixed = true
  | [], vs, tv, r, cells, h, hf, hr, _, hl => by
    simp only [bldA, Option.some.injEq] at h
    subst h
    obtain rfl := List.length_eq_zero_iff.1 hl
    exact ⟨cells, rfl, hr, hf⟩
  | (i, α) :: l, vs, tv, r, cells, h, hf, hr, hv, hl => by
    obtain ⟨u, hu0, hu⟩ := hv 0 (i, α) rfl
    obtain ⟨vs, rfl⟩ : ∃ r, vs = (i, u) :: r := by
      cases vs with
      | nil => simp at hu0
      | cons y vs => simp at hu0; exact ⟨vs, by rw [hu0]⟩
    simp only [bldA] at h
    cases h1 : putTV α with
    | none => simp [h1] at h
    | some t =>
      simp only [h1] at h
      cases h2 : getP tv.1 tv.2 (pth i) with
      | none => simp [h2] at h
      | some old =>
        simp only [h2] at h
        split at h
        · rename_i hc
          simp only [Bool.and_eq_true, decide_eq_true_eq] at hc
          obtain ⟨⟨⟨⟨⟨c1, c2⟩, c3⟩, c4⟩, c5⟩, c6⟩ := hc
          cases h3 : setP tv.1 tv.2 (pth i) t with
          | none => simp [h3] at h
          | some q =>
            simp only [h3] at h
            split at h
            · rename_i hq
              have hok : okP tv.1 tv.2 (pth i) := by
                unfold pthOk at c5
                split at c5
                · rename_i n s k e1 e2
                  obtain ⟨s', x⟩ := tv
                  simp only at e1
                  subst e1
                  rw [e2]
                  refine ⟨?_, by simp [okP]⟩
                  simpa [Nat.blt_eq] using c5
                · exact okP_noI c5 h2
              obtain ⟨pre, c, post, e1, e2, e3, e4⟩ := rep_get (.inl hf) hr h2 hok
              obtain ⟨cs, rfl, hcs⟩ := relV_put hu h1 c2
              have hlen : cs.length = t.1.size := rep_len c2 hcs
              have hcells := mkV_cells hlen c4 (rep_one hcs)
              have hol : c.length = old.1.size := rep_len c3 e3
              have c1 := Nat.eq_of_beq_eq_true c1
              have hnew := e4 cs t q (by omega) hcs h3
              rw [fill_one (pre := pre) (old := c) (post := post) (off := offP tv.1 (pth i)) (by rw [hcells]; simpa [hlen] using c6) e2 e1 (by rw [hcells]; simp; omega)]
              refine bld_ok h hq ?_ (fun j β hj => ?_) (by simpa using hl)
              · rw [hcells]; simpa using hnew
              · have := hv (j + 1) β (by simpa using hj)
                simpa using this
            · cases h
        · cases h

/-! ### A struct or an array that is built -/
def bldT (P : Program) (T : TypeId) (l : List (Nat × AVal)) : Option TV :=
  match P.info? T with
  | some it => match it.zero with
    | some z => match dec (shOf P true 20 T) z.cells.toList with
      | some (x, []) => if (shOf P true 20 T).fixed then
        match P.underlying T with
        | some (.struct fs) => match fs.toList.mapM (fun f => (P.info? f.type).map fun i => (f.offset, i.size)) with
          | some pl => bldA (fPath fs.size) (pl.toArray[·]?) ⟨shOf P true 20 T, x⟩ l
          | none => none
        | some (.array _ e) => match P.info? e with
          | some ie => bldA (fun i => [.i i]) (fun i => some (i * ie.size, ie.size)) ⟨shOf P true 20 T, x⟩ l
          | none => none
        | _ => none
        else none
      | _ => none
    | none => none
  | none => none

theorem bldT_ok {T : TypeId} {l : List (Nat × AVal)} {r : TV} (h : bldT P T l = some r) (ha : r.1.agg = true) {vs : List (Nat × Value)} (hv : ∀ (q : Nat) (α : Nat × AVal), l[q]? = some α → ∃ u, vs[q]? = some (α.1, u) ∧ RelV P M φ α.2 u) (hl : vs.length = l.length) (w : World) :
    ∃ y, (Instr.build T vs.toArray).run P w = .ok y w ∧ RelV P M φ (.v r.1 r.2) y := by
  unfold bldT at h
  cases hi : P.info? T with
  | none => simp [hi] at h
  | some it =>
    simp only [hi] at h
    cases hz : it.zero with
    | none => simp [hz] at h
    | some z =>
      simp only [hz] at h
      split at h
      · rename_i x hd
        split at h
        · rename_i hf
          obtain ⟨c, hc, hr⟩ := dec_ok (P := P) (φ := φ) (M := M) hd
          rw [List.append_nil] at hc
          subst hc
          have fin : ∀ cells', RepC P φ r.1 M (Array.toList cells') r.2 → r.1.fixed = true → RelV P M φ (.v r.1 r.2) (.agg cells') := fun cells' h1 h2 => ⟨h2, cells'.toList, by simp [mkV, ha], h1⟩
          cases hu : P.underlying T with
          | none => simp [hu] at h
          | some d =>
            simp only [hu] at h
            cases d <;> simp only [reduceCtorEq] at h
            · rename_i n e
              cases hie : P.info? e with
              | none => simp [hie] at h
              | some ie =>
                simp only [hie] at h
                obtain ⟨cells', h1, h2, h3⟩ := bld_ok h hf hr hv hl
                refine ⟨.agg cells', run_build w T _ _ ?_, fin _ h2 h3⟩
                simpa [Program.built, hi, hu, hz, hie] using h1
            · rename_i fs
              cases hp : fs.toList.mapM (fun f => (P.info? f.type).map fun i => (f.offset, i.size)) with
              | none => simp [hp] at h
              | some pl =>
                simp only [hp] at h
                obtain ⟨cells', h1, h2, h3⟩ := bld_ok h hf hr hv hl
                refine ⟨.agg cells', run_build w T _ _ ?_, fin _ h2 h3⟩
                simpa [Program.built, hi, hu, hz, hp] using h1
        · cases h
      · cases h

/-! ### Lengths -/
def lenA (H : AStore) : AVal → Option Int
  | .v (.sl _) xs => some (List.length xs : Nat)
  | .v .str l => some (List.length l : Nat)
  | .v (.nl _) _ => some 0
  | .row L => match look H L with
    | some (.row _ _ xs) => some (xs.length : Nat)
    | _ => none
  | .sub _ _ _ n => some (n : Nat)
  | _ => none
def lenTB (P : Program) (T : TypeId) : AVal → Bool
  | .v .str _ => match P.underlying T with | some .string => true | _ => false
  | _ => match P.underlying T with | some (.slice _) => true | _ => false
theorem has_len {n : Nat} (h : n ≤ maxLen) : IntKind.i64.has (n : Int) := by
  have : maxLen = 9223372036854775807 := by simp [maxLen]
  constructor
  · show (-9223372036854775808 : Int) ≤ _; omega
  · show _ ≤ (9223372036854775807 : Int); omega
theorem run_lenA (hc : Core P b M φ ξ H w) {T ty : TypeId} {α : AVal} {u : Value} {n : Int} (hu : RelV P M φ α u) (h : lenA H α = some n) (hT : lenTB P T α = true) : (Builtin.len_ #[T] ty #[u]).run P w = .ok (.int .i64 n) w ∧ IntKind.i64.has n := by
  have sl : ∀ A len cap, (match P.underlying T with | some (.slice _) => true | _ => false) = true → (Builtin.len_ #[T] ty #[.slice A len cap]).run P w = .ok (.int .i64 (len : Nat)) w := by
    intro A len cap ht
    split at ht
    · rename_i e hu
      simp [Builtin.len_, run_underlying hu, goInt]
    · cases ht
  unfold lenA at h
  split at h
  · rename_i s xs
    simp only [Option.some.injEq] at h; subst h
    obtain ⟨_, cs, rfl, A, len, cap, vs, rfl, rfl, h2, _⟩ := hu
    exact ⟨sl A _ cap hT, has_len (by omega)⟩
  · rename_i l
    simp only [Option.some.injEq] at h; subst h
    obtain ⟨_, cs, rfl, rfl, h2⟩ := hu
    simp only [lenTB] at hT
    split at hT
    · rename_i hu
      refine ⟨?_, has_len h2⟩
      have e : mkV .str [.string (bs l)] = .string (bs l) := rfl
      rw [e]
      simp [Builtin.len_, run_underlying hu, goInt, bs_size]
    · cases hT
  · simp only [Option.some.injEq] at h; subst h
    obtain ⟨_, cs, rfl, h2⟩ := hu
    simp only [RepC] at h2
    subst h2
    exact ⟨sl none 0 0 hT, has_len (n := 0) (Nat.zero_le _)⟩
  · rename_i L
    split at h
    · rename_i e s xs hl
      simp only [Option.some.injEq] at h; subst h
      obtain ⟨rfl, _⟩ := hu
      obtain ⟨_, A, cap, h1, h2⟩ := hc.items L _ (look_mem hl)
      rw [h1]
      refine ⟨sl A _ cap hT, has_len ?_⟩
      rcases h2 with ⟨_, rfl, _⟩ | ⟨g, c, _, _, _, h5, h6, _⟩
      · simp
      · omega
    · cases h
  · rename_i L sz lo m
    simp only [Option.some.injEq] at h; subst h
    obtain ⟨A, m', c, h1, h2, h3, B, rfl, _⟩ := hu
    exact ⟨sl B _ _ hT, has_len (by omega)⟩
  · cases h

/-! ### Parts of texts and of frozen slices -/
def bndA (d : Nat) : Option AVal → Option (Nat × List Prop)
  | none => some (d, [])
  | some (.v (.int _) n) => some (Int.toNat n, [(0 : Int) ≤ n])
  | _ => none
def RelO (P : Program) (M : Fz) (φ : Nat → Value) : Option AVal → Option Value → Prop
  | none, none => True
  | some α, some u => RelV P M φ α u
  | _, _ => False

theorem run_bnd {o : Option AVal} {v : Option Value} {d n : Nat} {C : List Prop} (hr : RelO P M φ o v) (h : bndA d o = some (n, C)) (hC : AllP C) : (v = none ∧ n = d) ∨ ∃ (k : IntKind) (m : Int), v = some (.int k m) ∧ 0 ≤ m ∧ m.toNat = n := by
  cases o with
  | none =>
    cases v with
    | none => simp only [bndA, Option.some.injEq, Prod.mk.injEq] at h; exact .inl ⟨rfl, h.1.symm⟩
    | some u => exact hr.elim
  | some α =>
    cases v with
    | none => exact hr.elim
    | some u =>
      unfold bndA at h
      split at h
      · rename_i e; cases e
      · rename_i k m e
        simp only [Option.some.injEq] at e
        subst e
        simp only [Option.some.injEq, Prod.mk.injEq] at h
        obtain ⟨rfl, rfl⟩ := h
        obtain ⟨_, cs, rfl, rfl, _⟩ := hr
        exact .inr ⟨k, m, rfl, hC.1, rfl⟩
      · cases h

theorem run_bounds {sl : Bool} {len cap lo hi : Nat} {l h : Option Value} (hl : (l = none ∧ lo = 0) ∨ ∃ (k : IntKind) (m : Int), l = some (.int k m) ∧ 0 ≤ m ∧ m.toNat = lo) (hh : (h = none ∧ hi = len) ∨ ∃ (k : IntKind) (m : Int), h = some (.int k m) ∧ 0 ≤ m ∧ m.toNat = hi) (h1 : lo ≤ hi) (h2 : hi ≤ cap) (h3 : len ≤ cap) (w : World) :
    (Instr.sliceBounds sl len cap l h none).run P w = .ok (lo, hi, cap) w := by
  have sb : ∀ (k : IntKind) (m : Int) (y : Nat) (c : BoundsCode), 0 ≤ m → m.toNat ≤ y → (Instr.sliceBound (.int k m) y c).run P w = .ok m.toNat w := by
    intro k m y c h0 hy
    have : 0 ≤ m ∧ m ≤ y := ⟨h0, by omega⟩
    simp [Instr.sliceBound, asIntOf, this]
  rcases hl with ⟨rfl, rfl⟩ | ⟨k, m, rfl, h0, rfl⟩ <;> rcases hh with ⟨rfl, rfl⟩ | ⟨k', m', rfl, h0', rfl⟩
  all_goals simp only [Instr.sliceBounds, Sem.run_bind, Sem.run_pure, Result.andThen_ok]
  · rw [sb _ _ _ _ h0' h2]; rfl
  · rw [sb _ _ _ _ h0 h1]; rfl
  · rw [sb _ _ _ _ h0' h2]; simp only [Result.andThen_ok]; rw [sb _ _ _ _ h0 h1]; rfl

theorem sl_str {T : TypeId} {l : Str} {o1 o2 : Option AVal} {v1 v2 : Option Value} {lo hi : Nat} {C1 C2 : List Prop} {u : Value} (hu : RelV P M φ (.v .str l) u) (hT : P.underlying T = some .string) (r1 : RelO P M φ o1 v1) (r2 : RelO P M φ o2 v2) (e1 : bndA 0 o1 = some (lo, C1)) (e2 : bndA l.length o2 = some (hi, C2)) (c1 : AllP C1) (c2 : AllP C2) (h1 : lo ≤ hi) (h2 : hi ≤ l.length) (w : World) :
    ∃ y, (Instr.sliceAt T u v1 v2 none).run P w = .ok y w ∧ RelV P M φ (.v .str ((l.take hi).drop lo)) y := by
  obtain ⟨_, cs, rfl, rfl, hlen⟩ := hu
  have e : mkV .str [.string (bs l)] = .string (bs l) := rfl
  rw [e]
  refine ⟨.string (bs ((l.take hi).drop lo)), ?_, rfl, _, rfl, rfl, by simp; omega⟩
  have := run_bounds (P := P) (sl := false) (len := (bs l).size) (cap := (bs l).size) (run_bnd r1 e1 c1) (run_bnd r2 e2 c2) h1 h2 (Nat.le_refl _) w
  have ex : (bs l).extract lo hi = bs ((l.take hi).drop lo) := by rw [bs_extract, List.drop_take]
  simp [Instr.sliceAt, Instr.slice, run_underlying hT, this, ex]

theorem sl_sl {T e : TypeId} {s : Sh} {xs : List s.ty} {o1 o2 : Option AVal} {v1 v2 : Option Value} {lo hi : Nat} {C1 C2 : List Prop} {u : Value} (hu : RelV P M φ (.v (.sl s) xs) u) (hT : slB P T = some e) (hs : szB P e s.size = true) (r1 : RelO P M φ o1 v1) (r2 : RelO P M φ o2 v2) (e1 : bndA 0 o1 = some (lo, C1)) (e2 : bndA xs.length o2 = some (hi, C2)) (c1 : AllP C1) (c2 : AllP C2) (h1 : lo ≤ hi) (h2 : hi ≤ xs.length) (w : World) :
    ∃ y, (Instr.sliceAt T u v1 v2 none).run P w = .ok y w ∧ RelV P M φ (.v (.sl s) ((xs.take hi).drop lo)) y := by
  obtain ⟨hf, cs, rfl, A, len, cap, vs, rfl, rfl, h3, h4, h5⟩ := hu
  have hf' : s.fixed = true := by simp only [Sh.fixed, Bool.and_eq_true] at hf; exact hf.1
  have e : mkV (.sl s) [.slice A xs.length cap] = .slice A xs.length cap := rfl
  rw [e]
  have hvl := RepL_len (fun c y hc => rep_len hf' hc) h5
  have hb := run_bounds (P := P) (sl := true) (len := xs.length) (cap := cap) (run_bnd r1 e1 c1) (run_bnd r2 e2 c2) h1 (by omega) h3.1 w
  have key : ∀ (n : Nat) (ys : List s.ty) (us : List Value), n ≤ ys.length → RepL (RepC P φ s M) us ys → RepL (RepC P φ s M) (us.drop (n * s.size)) (ys.drop n) := by
    intro n
    induction n with
    | zero => intro ys us _ h; simpa using h
    | succ n ih =>
      intro ys us hn h
      cases ys with
      | nil => simp at hn
      | cons y ys =>
        obtain ⟨c, r, rfl, k1, k2⟩ := h
        have := ih ys r (by simpa using hn) k2
        rw [Nat.succ_mul, Nat.add_comm, ← rep_len hf' k1, ← List.drop_drop, List.drop_left, rep_len hf' k1]
        simpa using this
  have key2 : ∀ (n : Nat) (ys : List s.ty) (us : List Value), n ≤ ys.length → RepL (RepC P φ s M) us ys → RepL (RepC P φ s M) (us.take (n * s.size)) (ys.take n) := by
    intro n
    induction n with
    | zero => intro ys us _ h; simp [RepL]
    | succ n ih =>
      intro ys us hn h
      cases ys with
      | nil => simp at hn
      | cons y ys =>
        obtain ⟨c, r, rfl, k1, k2⟩ := h
        refine ⟨c, r.take (n * s.size), ?_, k1, ih ys r (by simpa using hn) k2⟩
        rw [Nat.succ_mul, Nat.add_comm, ← rep_len hf' k1, List.take_length_add_append, rep_len hf' k1]
  have hrun : (Instr.sliceAt T (.slice A xs.length cap) v1 v2 none).run P w = .ok (.slice (if cap = lo then A else A.map (·.add (lo * s.size))) (hi - lo) (cap - lo)) w := by
    simp [Instr.sliceAt, Instr.slice, run_underlying (slB_ok hT), hb, szB_ok hs]
  refine ⟨_, hrun, hf, _, rfl, _, _, _, (vs.take (hi * s.size)).drop (lo * s.size), rfl, ?_, ?_, ?_, ?_⟩
  · simp; omega
  · omega
  · intro q hq
    simp only [List.length_drop, List.length_take] at hq
    obtain ⟨g, o, c, k1, k2, k3⟩ := h4 (lo * s.size + q) (by omega)
    have hne : ¬ cap = lo := by
      intro e
      have : hi = lo := by omega
      subst this
      omega
    subst k1
    refine ⟨g, o + lo * s.size, c, by rw [if_neg hne]; simp [addz], k2, ?_⟩
    rw [Nat.add_assoc, k3, List.getElem?_drop, List.getElem?_take_of_lt (by omega)]
  · exact key lo _ _ (by simp; omega) (key2 hi xs vs h2 h5)

/-! ### Conversions of numbers, min and max -/
theorem cv_int {s t : TypeId} {k j : IntKind} {n : Int} {d : TypeDesc} (hs : P.underlying s = some d) (ht : P.underlying t = some (.int k)) (w : World) : (convert s t (.int j n)).run P w = .ok (.int k (k.wrap n)) w := by
  simp only [convert, Sem.run_bind, run_underlying hs, run_underlying ht, Result.andThen_ok]
  cases d <;> rfl
def mx (a c : Int) : Int := if c > a then c else a
def mn (a c : Int) : Int := if c < a then c else a
theorem run_mx {ts : Array TypeId} {ty : TypeId} {k j : IntKind} {a c : Int} (w : World) : (Builtin.max_ ts ty #[.int k a, .int j c]).run P w = .ok (.int k (mx a c)) w := by simp [Builtin.max_, Builtin.max2, mx]
theorem run_mn {ts : Array TypeId} {ty : TypeId} {k j : IntKind} {a c : Int} (w : World) : (Builtin.min_ ts ty #[.int k a, .int j c]).run P w = .ok (.int k (mn a c)) w := by simp [Builtin.min_, Builtin.min2, mn]
theorem run_mx3 {ts : Array TypeId} {ty : TypeId} {k j i : IntKind} {a c d : Int} (w : World) : (Builtin.max_ ts ty #[.int k a, .int j c, .int i d]).run P w = .ok (.int k (mx (mx a c) d)) w := by simp [Builtin.max_, Builtin.max2, mx]
theorem has_mx {k : IntKind} {a c : Int} (h : k.has a) (h' : k.has c) : k.has (mx a c) := by unfold mx; split <;> assumption
theorem has_mn {k : IntKind} {a c : Int} (h : k.has a) (h' : k.has c) : k.has (mn a c) := by unfold mn; split <;> assumption
end
end Go.Proofs.YtlhbekiplnmolaaDoor
