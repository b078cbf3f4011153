/- The machine's side, told once: a region's tail; slices that are made; builtins. -/
import Derived.Test.YthapghhmeicbnaaDoorK6
set_option linter.unusedVariables false
set_option linter.unusedSimpArgs false
namespace Go.Proofs.YthapghhmeicbnaaDoor
open Go.RowKit

def EnvSubs : List Pn → Env → Prop
  | [], _ => True
  | p :: l, ρ => EnvSub p.O ρ ∧ EnvSubs l ρ
theorem EnvSubs.ok : ∀ {ps : List Pn} {ρ : Env}, EnvSubs ps ρ → ∀ p ∈ ps, EnvSub p.O ρ
  | [], _, _, p, hp => by cases hp
  | q :: l, ρ, h, p, hp => by
    rcases List.mem_cons.1 hp with rfl | hp
    · exact h.1
    · exact EnvSubs.ok h.2 p hp

section
variable {P : Program} {fn : Func} {w0 : World} {k : List KI} {ρ : Env} {H : Hp} {R : Value → Hp → Prop} {ops : Array Oper} {i : Nat} {todo : List Nat} {dst : Option Tmp} {d : Tmp}

/-- The tail of a region, in any order, to one end. -/
def AnyTo (P : Program) (fn : Func) (w0 : World) (ops : Array Oper) (fuel : Nat) (listed : Array Bool) (ρ : Env) (H : Hp) (K : Env → Hp → Prop) : Prop :=
  ∀ (Q : Exit → Act → World → Prop), (∀ ρ' H', K ρ' H' → ∀ a w, EnvOk ρ' a.tmps → a.tmps.size = fn.ntmps → a.defers = [] → Sat w0 H' w → Q .normal a w) →
    ∀ a w, EnvOk ρ a.tmps → a.tmps.size = fn.ntmps → a.defers = [] → Sat w0 H w → wpAny P .any ops Q fuel listed a w

theorem to_end {listed : Array Bool} {K : Env → Hp → Prop} (hr : Region.ready .any ops listed = []) (h : K ρ H) : AnyTo P fn w0 ops 0 listed ρ H K :=
  fun _ hQ a w h1 h2 h3 h4 => ⟨hr, hQ _ _ h a w h1 h2 h3 h4⟩

theorem to_step {n : Nat} {listed : Array Bool} {l : List Nat} {K : Env → Hp → Prop} (hr : Region.ready .any ops listed = l) (hne : l ≠ []) (h : ∀ i ∈ l, RunOp P fn w0 ops i ρ H (fun ρ' H' => AnyTo P fn w0 ops n (listed.setIfInBounds i true) ρ' H' K)) :
    AnyTo P fn w0 ops (n + 1) listed ρ H K := by
  intro Q hQ a w h1 h2 h3 h4
  refine ⟨fun h0 => absurd (hr.symm.trans h0) hne, fun i hi => ?_⟩
  rw [hr] at hi
  exact h i hi _ _ (fun ρ' H' hk a w g1 g2 g3 g4 => hk Q hQ a w g1 g2 g3 g4) a w h1 h2 h3 h4

theorem to_run {fuel : Nat} {listed : Array Bool} {ρ' : Env} {H' : Hp} (h : AnyTo P fn w0 ops fuel listed ρ H (fun ρ2 H2 => EnvSub ρ' ρ2 ∧ ∃ l, HpSub H' l H2 ∧ l.Nodup)) (hk : Run P fn w0 k ρ' H' R) : RunAny P fn w0 ops fuel listed k ρ H R := by
  refine fun a w h1 h2 h3 h4 => h _ (fun ρ2 H2 hK a w g1 g2 g3 g4 => ?_) a w h1 h2 h3 h4
  obtain ⟨e1, l, e2, e3⟩ := hK
  exact run_less l hk e1 e2 e3 a w g1 g2 g3 g4

theorem run_par' {c : Code} (hc : Code.kind c = .region ops true) (hm : P.follows .mixedOrders = true) (pl : List PI) (ps : List Pn) (ρ1 : Env) (hok : planOk ops fn.ntmps pl ps ρ1 = true) (ht : tailB ops pl.length = true) (h1 : EnvSub ρ1 ρ) (hO : EnvSubs ps ρ)
    (hob : ObL P fn w0 ops pl ρ1 H 0 ps)
    (hk : ∀ V hs, (∀ i ∈ relsOf pl, pq pl V i (hs i)) → RunAny P fn w0 ops (ops.size - pl.length) (listedTo pl.length ops.size) k (envD ops pl V (List.range pl.length) ++ ρ) ((relsOf pl).flatMap hs ++ H) R) : Run P fn w0 (.code c :: k) ρ H R :=
  run_par hc hm pl ps ρ1 hok ht h1 hO.ok hob hk

theorem run_pick {c : Bool} {x y v : Value} (h : stepG fn.ntmps ops i ρ = some (some d, (do pure (.value (if ← asBool (.bool c) then x else y))))) (hv : (if c then x else y) = v) (hk : Run P fn w0 (.ops ops todo :: k) ((d, v) :: ρ) H R) : Run P fn w0 (.ops ops (i :: todo) :: k) ρ H R := by
  subst hv
  exact run_wanted h fun w h4 => ⟨_, w, H, rfl, h4, hk⟩

/-- The same laws under a guard. -/
theorem run_mvG {v : Value} (h : stepG fn.ntmps ops i ρ = some (some d, pure (.value v))) (hk : Run P fn w0 (.ops ops todo :: k) ((d, v) :: ρ) H R) : Run P fn w0 (.ops ops (i :: todo) :: k) ρ H R :=
  run_wanted h fun w h4 => ⟨v, w, H, rfl, h4, hk⟩
theorem run_rdG {s : Sem Value} {v : Value} (h : stepG fn.ntmps ops i ρ = some (some d, vN s)) (hr : Rdo P w0 H s v) (hk : Run P fn w0 (.ops ops todo :: k) ((d, v) :: ρ) H R) : Run P fn w0 (.ops ops (i :: todo) :: k) ρ H R :=
  run_wanted h fun w h4 => ⟨v, w, H, vN_run (hr w h4), h4, hk⟩
theorem run_pf0G {f : FuncId} {l : List Value} {v : Value} (h : stepG fn.ntmps ops i ρ = some (some d, callN (.func (.func f) #[] #[]) l))
    (hb : ∀ args w, (callFunc f args).run P w = .ok (.enter f args) w) (hc : Pf P f l.toArray v)
    (hk : Run P fn w0 (.ops ops todo :: k) ((d, v) :: ρ) H R) : Run P fn w0 (.ops ops (i :: todo) :: k) ρ H R := by
  intro a w h1 h2 h3 h4
  obtain ⟨o, ho, hw, hd, hlt, he⟩ := stepG_ok h h1
  show wpOps P ops _ (i :: todo) a w
  simp only [wpOps, ho, hw, if_true]
  left
  simp only [Oper.wp, he, callN_run (hb _ w), Oper.upon_enter]
  rw [Array.append_empty]
  refine (hc w).mono ?_
  rintro e w' ⟨u, hh, rfl, hs, rfl⟩
  simp only [hd]
  exact hk _ _ (h1.put d u (by rw [h2]; exact hlt d rfl)) (by rw [put_size]; exact h2) (by rw [put_defers]; exact h3) (h4.grow hs).drop

theorem rdv {T : TypeId} {p : Addr} {v : Value} (h : Rdo P w0 H (Instr.loadAt T (.pointer (some p))) v) : Rdo P w0 H (loadVar T p) v := fun w s => h w s

/-! ### Slices that are made -/

theorem run_lit {t e : TypeId} {n size : Nat} {l : List (Nat × Value)} {z : Value} {c : Array Value} (h : step fn.ntmps ops i ρ = some (some d, vN (Instr.buildSlice t n l.toArray)))
    (ht : P.underlying t = some (.slice e)) (hn : ∀ w, (sizeOf e).run P w = .ok size w) (hz : ∀ w, (zeroValue e).run P w = .ok z w) (h24 : Nat.ble (n * size) 16777216 = true) (h0 : Nat.blt 0 (n * size) = true)
    (hc : Instr.fill (fun i => some (i * size, size)) ((Array.range (n * size)).map (z.cells[· % z.cells.size]!)) l = some c)
    (hk : ∀ g, Run P fn w0 (.ops ops todo :: k) ((d, .slice (some ⟨g, 0, none⟩) n n) :: ρ) (.blk g (.cells c e) :: H) R) : Run P fn w0 (.ops ops (i :: todo) :: k) ρ H R := by
  refine run_val h fun w h4 => ⟨_, _, _, vN_run ?_, h4.alloc (.cells c e), hk w.heap.size⟩
  have h24' : ¬ n * size > 2 ^ 24 := by have := Nat.le_of_ble_eq_true h24; omega
  have h0' : ¬ n * size = 0 := by
    have : 0 < n * size := by simpa [Nat.blt_eq] using h0
    omega
  simp [Instr.buildSlice, run_underlying ht, hn, h24', h0', hz, hc, newRow]

/-- A slice literal without elements. -/
theorem run_lit0 {t e : TypeId} {size : Nat} (h : step fn.ntmps ops i ρ = some (some d, vN (Instr.buildSlice t 0 #[])))
    (ht : P.underlying t = some (.slice e)) (hn : ∀ w, (sizeOf e).run P w = .ok size w)
    (hk : ∀ g, Run P fn w0 (.ops ops todo :: k) ((d, .slice (some ⟨g, 0, none⟩) 0 0) :: ρ) (.row (some ⟨g, 0, none⟩) 0 e size 0 [] :: H) R) : Run P fn w0 (.ops ops (i :: todo) :: k) ρ H R := by
  refine run_val h fun w h4 => ⟨_, _, _, vN_run (?_ : _ = Result.ok _ (w.alloc (.cells #[] e))), ?_, hk w.heap.size⟩
  · simp [Instr.buildSlice, run_underlying ht, hn, Instr.fill, newRow]
    congr 2
    apply Array.eq_empty_of_size_eq_zero
    simp
  · have s := h4.alloc (.cells #[] e)
    refine s.swap (H := .blk w.heap.size (.cells #[] e) :: H) (i := 0) (x := .blk w.heap.size (.cells #[] e)) (y := .row (some ⟨w.heap.size, 0, none⟩) 0 e size 0 []) rfl ?_ rfl
    exact ⟨by simp, .inr ⟨w.heap.size, 0, #[], rfl, h4.below.size, heap_alloc_new w _, Nat.le_refl _, by simp [maxLen], by simp, by simp⟩⟩

/-- A whole array as a slice. -/
theorem rd_arrSlice {T e : TypeId} {n g off size : Nat} (hT : P.underlying T = some (.array n e)) (hn : ∀ w, (sizeOf e).run P w = .ok size w) : Rdo P w0 H (Instr.sliceAt T (.pointer (some ⟨g, off, none⟩)) none none none) (.slice (some ⟨g, off, none⟩) n n) := by
  intro w _
  simp [Instr.sliceAt, run_underlying hT, Instr.sureAddr, Instr.sliceBounds, hn, Addr.add]

theorem run_firstCells {w : World} {A : Option Addr} {xs : List Value} {size n m c : Nat} (hk : Cells w A xs) (hn : n * size ≤ xs.length) (hs : ∀ a, A = some a → a.spot = none) : (Builtin.firstCells size n (.slice A m c)).run P w = .ok (xs.take (n * size)).toArray w := by
  cases A with
  | none =>
    have : n * size = 0 := by
      rcases Nat.eq_zero_or_pos (n * size) with h | h
      · exact h
      · obtain ⟨b, o, hA, _⟩ := hk 0 (by omega)
        cases hA
    simp [Builtin.firstCells, this]
  | some a =>
    obtain ⟨b, o, sp⟩ := a
    have := hs _ rfl
    simp only at this
    subst this
    refine run_firstCells_some (P := P) w size n ⟨b, o, none⟩ m c (xs.take (n * size)) (by simp; omega) fun j v hj => ?_
    rw [List.getElem?_take] at hj
    split at hj
    · obtain ⟨b', o', hA, hc⟩ := hk j (List.getElem?_eq_some_iff.1 hj).1
      obtain ⟨rfl, rfl⟩ : b = b' ∧ o = o' := by simpa using hA
      rw [add_zero_off, hc, hj]
    · cases hj

theorem cells_spot {w : World} {A : Option Addr} {xs : List Value} (hk : Cells w A xs) (h : 0 < xs.length) : ∀ a, A = some a → a.spot = none := by
  intro a ha
  obtain ⟨b, o, hA, _⟩ := hk 0 h
  rw [hA] at ha
  obtain rfl := Option.some.inj ha
  rfl

/-- 'copy' into a block that is known whole. -/
theorem run_copy {t u ty e : TypeId} {size j g off n dn dc sn sc : Nat} {A : Option Addr} {xs : List Value} {c c' : Array Value} {T : TypeId} {H' : Hp} (h : step fn.ntmps ops i ρ = some (some d, vN (Builtin.copy_ #[t, u] ty #[.slice (some ⟨g, off, none⟩) dn dc, .slice A sn sc])))
    (ht : P.underlying t = some (.slice e)) (hz : ∀ w, (sizeOf e).run P w = .ok size w) (hH : H[j]? = some (.blk g (.cells c T))) (hk : Know w0 H A xs) (hx : xs.length = sn * size) (hn : min sn dn = n) (h1 : xs.all Value.oneCell' = true) (hs : off + n * size ≤ c.size) (hc : setAll c off (xs.take (n * size)) = c') (hH' : H.set j (.blk g (.cells c' T)) = H')
    (hkk : Run P fn w0 (.ops ops todo :: k) ((d, .int .i64 (n : Nat)) :: ρ) H' R) : Run P fn w0 (.ops ops (i :: todo) :: k) ρ H R := by
  refine run_val h fun w h4 => ?_
  have hm := h4.mem j _ hH
  have hcs := hk w h4
  have hle : n * size ≤ xs.length := by rw [hx]; exact Nat.mul_le_mul_right _ (by omega)
  have hf : (Builtin.firstCells size n (.slice A sn sc)).run P w = .ok (xs.take (n * size)).toArray w := by
    rcases Nat.eq_zero_or_pos xs.length with h0 | h0
    · have h00 : n * size = 0 := by omega
      have hx0 : xs = [] := List.eq_nil_of_length_eq_zero h0
      subst hx0
      cases A with
      | none => simp [Builtin.firstCells]
      | some a => simp [Builtin.firstCells, h00, loadCells, loadCellsFrom]
    · exact run_firstCells hcs hle (cells_spot hcs h0)
  have hl1 : (xs.take (n * size)).length = n * size := by simp; omega
  obtain ⟨w', r1, r2, r3, r4, r5, r6, r7⟩ := run_storeCells (P := P) (xs.take (n * size)) (off := off) (i := 0) hm.2 (by rw [hl1]; omega) (fun v hv => List.all_eq_true.1 h1 v (List.mem_of_mem_take hv))
  refine ⟨_, w', H', vN_run ?_, ?_, hkk⟩
  · have hn' : (Nat.min sn dn) = n := hn
    simp [Builtin.copy_, run_underlying ht, Builtin.lenOf, hn', hz, hf, r1, goInt]
  · subst hH' hc
    exact h4.write hH rfl r3 r4 r5 (by omega) (fun b _ hb => r7 b hb) ⟨hm.1, by simpa using r2⟩ (fun b hb => .inl (by simpa [HI.foot] using hb.symm))

theorem rd_max {ts : Array TypeId} {ty : TypeId} {K J : IntKind} {a b r : Int} (hr : (if b > a then b else a) = r) : Rdo P w0 H (Builtin.max_ ts ty #[.int K a, .int J b]) (.int K r) := by
  intro w _
  subst hr
  simp [Builtin.max_, Builtin.max2]
theorem rd_min {ts : Array TypeId} {ty : TypeId} {K J : IntKind} {a b r : Int} (hr : (if b < a then b else a) = r) : Rdo P w0 H (Builtin.min_ ts ty #[.int K a, .int J b]) (.int K r) := by
  intro w _
  subst hr
  simp [Builtin.min_, Builtin.min2]

theorem kwp_panic {F : Exit → Act → World → Prop} {c : List PanicEntry} {a : Act} {w : World} : ∀ {k : List KI}, kwp P F k (.panic c) a w → F (.panic c) a w
  | [], h => h
  | .block _ :: k, h => kwp_panic (k := k) h
  | .code _ :: k, h => kwp_panic (k := k) h
  | .loop _ :: k, h => kwp_panic (k := k) h
  | .scope :: k, h => kwp_panic (k := k) h
  | .ops _ _ :: k, h => kwp_panic (k := k) h
theorem fin_panic {c : List PanicEntry} {a : Act} {w : World} (h : fin P fn w0 R (.panic c) a w) : False := by
  obtain ⟨_, v, h, he, _⟩ := h
  cases he

/-- An operation that looks at no memory may be taken first. -/
theorem any_take {s : Sem Value} {v : Value} {n : Nat} {listed : Array Bool} (h : stepG fn.ntmps ops i ρ = some (some d, vN s)) (hv : ∀ w, s.run P w = .ok v w) (hs : Region.noSelect ops = true) (hf : Region.free .any ops listed i = true) (hr : (Region.ready .any ops listed).contains i = true)
    (hk : RunAny P fn w0 ops n (listed.setIfInBounds i true) k ((d, v) :: ρ) H R) : RunAny P fn w0 ops (n + 1) listed k ρ H R := by
  intro a w h1 h2 h3 h4
  obtain ⟨o, ho, hw, hd, hlt, he⟩ := stepG_ok h h1
  refine wpAny_take (oi := o) (v := v) ho hs hf hr (fun c a w hq => (fin_panic (kwp_panic hq)).elim) (.inl ⟨hw, fun w => ?_⟩) ?_
  · rw [he]; exact vN_run (hv w)
  · rw [hd]
    exact hk _ _ (h1.put d v (by rw [h2]; exact hlt d rfl)) (by rw [put_size]; exact h2) (by rw [put_defers]; exact h3) h4
theorem any_takeM {v : Value} {n : Nat} {listed : Array Bool} (h : stepG fn.ntmps ops i ρ = some (some d, pure (.value v))) (hs : Region.noSelect ops = true) (hf : Region.free .any ops listed i = true) (hr : (Region.ready .any ops listed).contains i = true)
    (hk : RunAny P fn w0 ops n (listed.setIfInBounds i true) k ((d, v) :: ρ) H R) : RunAny P fn w0 ops (n + 1) listed k ρ H R := by
  intro a w h1 h2 h3 h4
  obtain ⟨o, ho, hw, hd, hlt, he⟩ := stepG_ok h h1
  refine wpAny_take (oi := o) (v := v) ho hs hf hr (fun c a w hq => (fin_panic (kwp_panic hq)).elim) (.inl ⟨hw, fun w => ?_⟩) ?_
  · rw [he]; rfl
  · rw [hd]
    exact hk _ _ (h1.put d v (by rw [h2]; exact hlt d rfl)) (by rw [put_size]; exact h2) (by rw [put_defers]; exact h3) h4

/-- The one operation that may come. -/
theorem any_one {n : Nat} {listed : Array Bool} (hr : Region.ready .any ops listed = [i]) (h : RunOp P fn w0 ops i ρ H (fun ρ' H' => RunAny P fn w0 ops n (listed.setIfInBounds i true) k ρ' H' R)) : RunAny P fn w0 ops (n + 1) listed k ρ H R :=
  any_step hr (by simp) fun j hj => by
    obtain rfl : j = i := by simpa using hj
    exact h
end
end Go.Proofs.YthapghhmeicbnaaDoor
