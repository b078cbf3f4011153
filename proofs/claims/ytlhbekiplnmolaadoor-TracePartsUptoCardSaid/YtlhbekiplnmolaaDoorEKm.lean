/- strings.Builder: its functions by hand as contracts over a variable and a row of bytes. -/
import Derived.Test.YtlhbekiplnmolaaDoorEK
set_option linter.unusedVariables false
set_option linter.unusedSimpArgs false
set_option linter.unusedVariables false
namespace Go.Proofs.YtlhbekiplnmolaaDoor
open Go.RowKit
def F_strings_Builder_copyCheck (x0 : Unit × List Int) : Option (Unit × List Int) := some x0
def byS (xs : List Int) : Str := xs.map fun i => UInt8.ofNat i.toNat
def F_strings_Builder_String (x0 : Unit × List Int) : Option Str := some (byS x0.2)
theorem byS_byI (x : Str) : byS (byI x) = x := by
  simp only [byS, byI, List.map_map]
  conv => rhs; rw [← List.map_id x]
  apply List.map_congr_left
  intro a _
  simp
theorem byS_app (xs ys : List Int) : byS (xs ++ ys) = byS xs ++ byS ys := by simp [byS]

section
variable {P : Program} {φ : Nat → Value} {M : Fz}
theorem rep_bytes : ∀ {vs : List Value} {xs : List Int}, RepL (RepC P φ (.int .u8) M) vs xs → vs = Lib.byteCells (byS xs)
  | vs, [], h => h
  | vs, x :: xs, ⟨c, r, e, h1, h2⟩ => by
    obtain ⟨rfl, h3⟩ := h1
    have h4 : 0 ≤ x ∧ x < 256 := by simpa [IntKind.has, IntKind.min, IntKind.max, IntKind.signed, IntKind.bits, Int.le_iff_lt_add_one] using h3
    rw [e, rep_bytes h2]
    have : ((UInt8.ofNat x.toNat).toNat : Int) = x := by
      rw [UInt8.toNat_ofNat', Nat.mod_eq_of_lt (by omega)]; omega
    simp [Lib.byteCells, byS]
    omega
end

/-- What is known of a builder. -/
theorem bld_open {n0 : Nat} {b : Base n0} {M : Fz} {φ : Nat → Value} {ξ : Nat → Option Nat} {w : World} {H : AStore} {i j : Nat} {xs : List Int} (hc : Core Tryd.prog b M φ ξ H w) (h1 : (i, .var 54 (.st (.prod .oref .ref)) ((i : Nat), (j : Nat))) ∈ H) (h2 : (j, .row 5 (.int .u8) xs) ∈ H) :
    ∃ g v, φ i = .pointer (some ⟨g, 0, none⟩) ∧ ξ i = some g ∧ w.heap[g]? = some (.cells #[v, φ j] 54 (0, 0)) ∧ (v = .pointer none ∨ v = .pointer (some ⟨g, 0, none⟩)) := by
  obtain ⟨_, g, c, e1, e2, e3, c1, c2, e4, e5, e6⟩ := hc.items _ _ h1
  obtain ⟨v, _, rfl, e7⟩ := e5
  obtain ⟨rfl, _⟩ := e6
  have : c = #[v, φ j] := by apply Array.ext'; rw [e4]; rfl
  subst this
  refine ⟨g, v, e1, e2, e3, ?_⟩
  rw [e1] at e7
  exact e7

theorem bld_ren {n0 N : Nat} {b : Base n0} {M : Fz} {φ : Nat → Value} {ξ : Nat → Option Nat} {w : World} {T e : TypeId} {S : Sh} {x : S.ty} {xs : List Int} (hn : n0 = 2) (hN : 2 ≤ N) (hS : S = .st (.prod .oref .ref)) (hx : HEq x ((0 : Nat), (1 : Nat))) (hc : Core Tryd.prog b M φ ξ [(0, .var T S x), (1, .row e (.int .u8) xs)] w) :
    ∃ φ' ξ', Core Tryd.prog b M φ' ξ' [(0, .var T (.st (.prod .oref .ref)) ((0 : Nat), N)), (N, .row e (.int .u8) xs)] w := by
  subst hS
  have hx := eq_of_heq hx
  subst hx hn
  have hne : ∀ m, m < 2 → ¬ N = m := fun m hm => by omega
  have nb : ∀ m, m < 2 → Nat.beq N m = false := fun m hm => by
    cases h : Nat.beq N m with
    | false => rfl
    | true => exact absurd (Nat.eq_of_beq_eq_true h) (hne m hm)
  have hL : freshB 2 N ([] : AEnv) ([(0, AItem.var T (.st (.prod .oref .ref)) ((0 : Nat), (1 : Nat)))] ++ (1, AItem.row e (.int .u8) xs) :: []) = true := by
    simp [freshB, envLabs, storeLabs, AItem.labs, Sh.labs, Sh.pers, hN, nb 0, nb 1]
  have hh := hc.items 1 _ (List.mem_cons_of_mem _ (List.mem_cons_self ..))
  have c1 := Core.repl (ρ := []) (H1 := [(0, AItem.var T (.st (.prod .oref .ref)) ((0 : Nat), (1 : Nat)))]) (H2 := []) (N := N) (it := .row e (.int .u8) xs) (it' := .row e (.int .u8) xs) (u := φ 1) (o := ξ 1) hc hL (w' := w) rfl rfl rfl (Nat.le_refl _) (fun _ _ _ => rfl) (held_labs (fun l hl => by cases hl) hh) (fun g hg => .inr hg)
  have c2 := Core.renAll (f := renF 1 N) c1 rfl (fun l => by
    unfold renF
    split
    · rename_i e
      have e := Nat.eq_of_beq_eq_true e
      subst e
      rw [upd_same, upd_ne (by omega)]
    · rfl)
  refine ⟨_, _, c2.perm ?_⟩
  simp only [List.append_nil, renHs, renI]
  exact List.Perm.swap _ _ _

theorem W_strings_Builder_copyCheck {x0 y : Unit × List Int} (hF0 : F_strings_Builder_copyCheck x0 = some y) : Mut Tryd.prog 35 2 [.ptr 0 [] 0] [(0, .var 54 (.st (.prod .oref .ref)) ((0 : Nat), (1 : Nat))), (1, .row 5 (.int .u8) x0.2)] (.tup []) [(0, .var 54 (.st (.prod .oref .ref)) ((0 : Nat), (1000001 : Nat))), (1000001, .row 5 (.int .u8) y.2)] := by
  obtain rfl := Option.some.inj hF0
  refine ⟨Tryd.call35, fun b ξ us hc hr => ?_⟩
  obtain ⟨u, r, rfl, ⟨g', hg', rfl⟩, hr2⟩ := hr
  have hr2 : r = [] := hr2
  subst hr2
  obtain ⟨g, v, e1, e2, e3, e4⟩ := bld_open hc (i := 0) (j := 1) (List.mem_cons_self ..) (List.mem_cons_of_mem _ (List.mem_cons_self ..))
  rw [e1] at hg'
  obtain rfl : g = g' := by simpa [blkOf] using hg'
  have fin : ∀ {w' : World}, Core Tryd.prog b b.M b.φ0 ξ [(0, .var 54 (.st (.prod .oref .ref)) ((0 : Nat), (1 : Nat))), (1, .row 5 (.int .u8) x0.2)] w' → ∃ M' φ' ξ' v, Ending.returned (.tuple #[]) = .returned v ∧ Core Tryd.prog b M' φ' ξ' [(0, .var 54 (.st (.prod .oref .ref)) ((0 : Nat), (1000001 : Nat))), (1000001, .row 5 (.int .u8) x0.2)] w' ∧ RelV Tryd.prog M' φ' (.tup []) v := by
    intro w' h
    obtain ⟨φ', ξ', h2⟩ := bld_ren (N := 1000001) rfl (by omega) rfl HEq.rfl h
    exact ⟨_, φ', ξ', _, rfl, h2, [], rfl, rfl⟩
  rcases e4 with rfl | rfl
  · have c0 : b.w.cell? ⟨g, 0, none⟩ = some (.pointer none) := by rw [Lib.cell_of_heap e3]; rfl
    refine (copyCheck_fresh g b.w c0 (by simp [World.shape?, e3]) (by simp [World.frozen?, e3])).mono ?_
    rintro e w' ⟨rfl, rfl⟩
    refine fin (Core.write (H1 := []) hc e2 rfl rfl rfl (by simp) (fun k hk => Below.heap_setCell _ _ _ _ (by simpa using hk)) ⟨rfl, g, #[.pointer (some ⟨g, 0, none⟩), b.φ0 1], e1, e2, ?_, ?_⟩)
    · simp [World.setCell, Array.getElem?_modify, e3]
    · obtain ⟨_, _, _, _, _, _, _, _, _, _, q⟩ := hc.items 0 _ (List.mem_cons_self ..)
      exact ⟨[.pointer (some ⟨g, 0, none⟩)], [b.φ0 1], rfl, ⟨_, rfl, rfl, .inr e1.symm⟩, rfl, q.2⟩
  · have c0 : b.w.cell? ⟨g, 0, none⟩ = some (.pointer (some ⟨g, 0, none⟩)) := by rw [Lib.cell_of_heap e3]; rfl
    refine (copyCheck_used g b.w c0).mono ?_
    rintro e w' ⟨rfl, rfl⟩
    exact fin hc

theorem W_strings_Builder_String {x0 : Unit × List Int} {y : Str} (hF0 : F_strings_Builder_String x0 = some y) : Mut Tryd.prog 26 2 [.ptr 0 [] 0] [(0, .var 54 (.st (.prod .oref .ref)) ((0 : Nat), (1 : Nat))), (1, .row 5 (.int .u8) x0.2)] (.v .str y) [] := by
  obtain rfl := Option.some.inj hF0
  refine ⟨Tryd.call26, fun b ξ us hc hr => ?_⟩
  obtain ⟨u, r, rfl, ⟨g', hg', rfl⟩, hr2⟩ := hr
  have hr2 : r = [] := hr2
  subst hr2
  obtain ⟨g, v, e1, e2, e3, e4⟩ := bld_open hc (i := 0) (j := 1) (List.mem_cons_self ..) (List.mem_cons_of_mem _ (List.mem_cons_self ..))
  rw [e1] at hg'
  obtain rfl : g = g' := by simpa [blkOf] using hg'
  have fin : ∀ {w' : World} {l : Str}, l.length ≤ maxLen → w'.os = b.w.os → w'.tape = b.w.tape → w'.output = b.w.output → b.w.heap.size ≤ w'.heap.size → (∀ k, k < b.w.heap.size → ξ 1 ≠ some k → w'.heap[k]? = b.w.heap[k]?) → ∃ M' φ' ξ' v, Ending.returned (.string (bs l)) = .returned v ∧ Core Tryd.prog b M' φ' ξ' [] w' ∧ RelV Tryd.prog M' φ' (.v .str l) v := by
    intro w' l hl h1 h2 h3 h4 h5
    refine ⟨b.M, b.φ0, ξ, _, rfl, ⟨hc.le, hc.same, hc.over' fun g c hg => ?_, ⟨h1, h2, h3, h4, fun k hk he => h5 k hk fun e => ?_⟩, fun _ _ h => (by cases h), fun _ _ _ h => (by cases h), fun _ _ _ _ _ h => (by cases h), List.nodup_nil, hc.keep⟩, rfl, [.string (bs l)], rfl, rfl, hl⟩
    · obtain ⟨t, fr, e⟩ := hc.over g c hg
      refine h5 g (Array.getElem?_eq_some_iff.1 e).1 fun e => ?_
      have := (hc.feet 1 _ g (List.mem_cons_of_mem _ (List.mem_cons_self ..)) e).2
      rw [hg] at this
      cases this
    · rcases (hc.feet 1 _ k (List.mem_cons_of_mem _ (List.mem_cons_self ..)) e).1 with h | h
      · omega
      · exact he h
  obtain ⟨hf, A, cap, k1, k2⟩ := hc.items 1 _ (List.mem_cons_of_mem _ (List.mem_cons_self ..))
  rw [k1] at e3
  rcases k2 with ⟨_, h0, rfl, rfl⟩ | ⟨g1, cur, k3, rfl, k4, k5, k6, k7, k8⟩
  · rw [h0] at e3 ⊢
    refine (bldString_nil g v b.w e3).mono ?_
    rintro e w' ⟨rfl, rfl⟩
    exact fin (l := []) (by simp) rfl rfl rfl (Nat.le_refl _) fun _ _ _ => rfl
  · have hsz : (Sh.int .u8).size = 1 := rfl
    rw [hsz, Nat.mul_one] at k7 k8
    have hby := rep_bytes k8
    have hbl : (byS x0.2).length = x0.2.length := by simp [byS]
    by_cases h0 : x0.2 = []
    · rw [h0] at e3 ⊢
      by_cases hz : cap = 0
      · subst hz
        refine (bldString_noroom g g1 v cur b.w e3 k4).mono ?_
        rintro e w' ⟨rfl, rfl⟩
        exact fin (l := []) (by simp) rfl rfl rfl (by simp) fun k hk _ => heap_alloc_old b.w.drew _ hk
      · refine (bldString_room g g1 cap v b.w hz e3).mono ?_
        rintro e w' ⟨rfl, rfl⟩
        exact fin (l := []) (by simp) rfl rfl rfl (Nat.le_refl _) fun _ _ _ => rfl
    · refine (bldString_row g g1 cap v cur (byS x0.2) b.w (by rw [hbl]; exact e3) (by simpa [byS] using h0) k4 (by rw [hbl]; exact k5) k6 k7 (by rw [hbl]; exact hby)).mono ?_
      rintro e w' ⟨rfl, rfl⟩
      refine fin (by rw [hbl]; omega) ?_ ?_ ?_ ?_ fun k hk hne => ?_
      · unfold World.freeze; split <;> rfl
      · unfold World.freeze; split <;> rfl
      · unfold World.freeze; split <;> rfl
      · unfold World.freeze; split <;> simp
      · unfold World.freeze
        split
        · rfl
        · simp only [Array.getElem?_modify]
          rw [if_neg (by intro e; exact hne (by rw [k3]; simpa using e))]
          rfl
end Go.Proofs.YtlhbekiplnmolaaDoor
