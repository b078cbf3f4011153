/- Numerals: strconv.Itoa and strconv.FormatUint (at base 10) as pure functions. -/
import Derived.Test.YtlhbekiplnmolaaDoorEKm
import Derived.Test.YtlhbekiplnmolaaDoorShelf
import Derived.Lib.ItoaMem
import Derived.Lib.ItoaLen
import Derived.Lib.Walk
import Derived.Lib.QuietBelow
import Derived.BigCall
import Derived.BigGuard
set_option linter.unusedVariables false
set_option linter.unusedSimpArgs false
set_option linter.unusedVariables false
namespace Go.Proofs.YtlhbekiplnmolaaDoor
open Go.Shelf Go.RowKit Go.Sort Go.Lib

theorem gl_tab {M : Fz} {w : World} (h : Over M w) : Lib.TabIs Tryd.prog w "internal/strconv.uint64pow10" .u64 Lib.pow10Tab := by
  have h1 := h.gl.tab _ (List.mem_singleton.2 rfl)
  obtain ⟨t, fr, e⟩ := h.cells _ _ h1
  have hg : Tryd.prog.globalNamed "internal/strconv.uint64pow10" = some ((Tryd.prog.globalNamed "internal/strconv.uint64pow10").getD 0) := by kernel_rfl
  unfold TabIs World.var?
  rw [hg]
  simp only [Option.bind_some]
  simp only at e
  rw [e]
  rfl

theorem below_grow (w : World) (k : Nat) (os : Array Obj) : RowKit.Below w.heap.size w (grow (w.drewN k) os) := by
  have := below_regrown w 0 #[]
  refine ⟨rfl, rfl, rfl, ?_, fun g hg => ?_⟩
  · simp [grow]
  · simp [grow, Array.getElem?_append_left hg]

theorem holds_zero0 (w : World) (T : TypeId) (nd : Nat) (hs : nd ≤ 24) : Holds (fun (b : UInt8) => Value.int .u8 (b.toNat : Int)) (w.alloc (.cells zeros24 T)) w.heap.size 0 (Array.replicate nd (0 : UInt8)) := fun j hj => by
  have hj' : j < nd := by simpa using hj
  refine ⟨?_, World.frozen?_alloc_new _ _ _ _⟩
  rw [World.cell?_alloc_new, zeros24_at _ (by omega), getElem!_pos _ j hj]
  simp
theorem fin_pos0 (w : World) (o : Obj) (dk : Array UInt8) (k : Nat) : ∃ os, (putRow (fun (b : UInt8) => Value.int .u8 (b.toNat : Int)) (w.alloc o) w.heap.size 0 dk).drewN k = grow (w.drewN k) os := by
  rw [alloc_eq_grow]
  obtain ⟨os', _, e⟩ := putRow_grow_new (fun (b : UInt8) => Value.int .u8 (b.toNat : Int)) w #[o] w.heap.size 0 dk (Nat.le_refl _)
  exact ⟨os', by rw [e]; rfl⟩

set_option maxHeartbeats 6400000 in
set_option maxRecDepth 100000 in
theorem w_FormatUintIn (u : Nat) (hu64 : u < 18446744073709551616) (w : World) (htab : Lib.TabIs Tryd.prog w "internal/strconv.uint64pow10" .u64 Lib.pow10Tab) :
    Calls Tryd.prog 41 #[.int .u64 u, .int .i64 10] w fun e w' => e = .returned (.string ⟨(Lib.decDigits u).toArray⟩) ∧ ∃ k os, w' = grow (w.drewN k) os := by
  by_cases hs : u < 100
  · go_enter Tryd.func41, Tryd.ntmps41
    have hcv : IntKind.i64.wrap (u : Int) = (u : Int) := by rw [IntKind.wrap_i64]; omega
    go_wp2_with fail
    refine (Tryd.internal_strconv_small u hs _).mono ?_
    rintro e w' ⟨rfl, rfl⟩
    go_wp2
    go_ret
    exact ⟨rfl, 0, #[], by simp [World.drewN_zero]⟩
  · have hu1 : 1 ≤ u := by omega
    have hnd20 : Lib.nDigits u ≤ 20 := by have := Lib.numDigits_eq u hu1 hu64; split at this <;> omega
    have hal : Tryd.prog.arrayLen 87 = 24 := by simp [Program.arrayLen, Tryd.underlying87]
    have hsl1 : ∀ W, (Instr.sliceAt 87 (.pointer (some ⟨w.heap.size, 0, none⟩)) none (some (.int .i64 (Lib.nDigits u : Int))) none).run Tryd.prog W = .ok (.slice (some ⟨w.heap.size, 0, none⟩) (Lib.nDigits u) 24) W := fun W => by
      rw [run_sliceAt_array_h W 87 ⟨w.heap.size, 0, none⟩ (by simp [Program.arrayLen, Program.elem, Tryd.underlying87]) .i64 (Lib.nDigits u : Int) (by omega) (by rw [hal]; omega)]
      go_simp
    have hH0 := holds_zero0 w 87 (Lib.nDigits u) (by omega)
    have hfmt := Tryd.internal_strconv_formatBase10 w.heap.size 0 24 u (Array.replicate (Lib.nDigits u) 0) (w.alloc (.cells Lib.zeros24 87)) hH0 (by rw [Array.size_replicate]; exact Lib.lt_pow_nDigits u) hu64 (by rw [Array.size_replicate]; omega)
    rw [Array.size_replicate] at hfmt
    have HH0 := Lib.hid hH0
    clear hH0 hal
    go_enter Tryd.func41, Tryd.ntmps41
    go_wp2_with fail
    refine (Tryd.internal_strconv_numDigits u hu1 hu64 _ (Lib.tabIs_alloc htab _)).mono ?_
    rintro e w' ⟨rfl, rfl⟩
    go_wp2_with fail
    refine hfmt.mono ?_
    rintro e w' ⟨rfl, k, v', dk, rfl, hF⟩
    have hcv : (convert 52 9 (.slice (some ⟨w.heap.size, 0, none⟩) (Lib.nDigits u) 24)).run Tryd.prog ((putRow (fun (b : UInt8) => Value.int .u8 (b.toNat : Int)) (w.alloc (.cells Lib.zeros24 87)) w.heap.size 0 dk).drewN k) = .ok (.string ⟨(Lib.decDigits u).toArray⟩) ((putRow (fun (b : UInt8) => Value.int .u8 (b.toNat : Int)) (w.alloc (.cells Lib.zeros24 87)) w.heap.size 0 dk).drewN k) := by
      have h := run_convert_bytes_back (P := Tryd.prog) ((putRow (fun (b : UInt8) => Value.int .u8 (b.toNat : Int)) (w.alloc (.cells Lib.zeros24 87)) w.heap.size 0 dk).drewN k) 52 9 5 ⟨w.heap.size, 0, none⟩ 24 (Lib.decDigits u) Tryd.underlying52 Tryd.underlying5 Tryd.underlying9 (fun j hj => by
        rw [Lib.row_is_numeral hF j hj, Lib.add_plain, World.cell?_drewN]
        exact cell?_putRow (fun (b : UInt8) => Value.int .u8 (b.toNat : Int)) _ w.heap.size 0 _ dk HH0.out (by rw [hF.size, Array.size_replicate]) j (by rw [hF.size]; rw [Lib.decDigits_length] at hj; exact hj))
      rw [Lib.decDigits_length] at h
      exact h
    go_wp2
    go_ret
    obtain ⟨os, eo⟩ := fin_pos0 w (.cells Lib.zeros24 87) dk k
    exact ⟨rfl, k, os, eo⟩

/-- A callee that only grows memory, as a pure function. -/
theorem pure_grow {f : FuncId} {l : List AVal} {x : Str} (he : Enters Tryd.prog f) (hx : x.length ≤ maxLen) (h : ∀ (w : World) (M : Fz) (us : List Value), Over M w → RelVs Tryd.prog M φ0 l us → Calls Tryd.prog f us.toArray w fun e w' => e = .returned (.string (bs x)) ∧ ∃ k os, w' = grow (w.drewN k) os) : Pure Tryd.prog f l (.v .str x) :=
  ⟨he, fun w M us ho hr => (h w M us ho hr).mono (by
    rintro e w' ⟨rfl, k, os, rfl⟩
    have hb := below_grow w k os
    refine ⟨M, _, rfl, hb, Fz.le_refl _, fun _ _ => rfl, ⟨fun g c hg => ?_, ho.gl⟩, rfl, [.string (bs x)], rfl, rfl, hx⟩
    obtain ⟨t, fr, e⟩ := ho.cells g c hg
    exact ⟨t, fr, (hb.block g (Array.getElem?_eq_some_iff.1 e).1).trans e⟩)⟩
def F_strconv_Itoa (x0 : Int) : Option Str := some (Lib.itoa x0)
def F_internal_strconv_FormatUint (x0 x1 : Int) : Option Str := if x1 = 10 then some (Lib.decDigits x0.toNat) else none
theorem int_of {M : Fz} {k : IntKind} {x : Int} {u : Value} (h : RelV Tryd.prog M φ0 (.v (.int k) x) u) : u = .int k x ∧ k.has x := by
  obtain ⟨_, cs, rfl, rfl, h⟩ := h
  exact ⟨rfl, h⟩
theorem W_strconv_Itoa {x0 : Int} {y : Str} (hF0 : F_strconv_Itoa x0 = some y) : Pure Tryd.prog 32 [vi x0] (.v .str y) := by
  obtain rfl := Option.some.inj hF0
  by_cases hh : IntKind.i64.has x0
  · have h1 : -9223372036854775808 ≤ x0 ∧ x0 ≤ 9223372036854775807 := by simpa [IntKind.has, IntKind.min, IntKind.max, IntKind.signed, IntKind.bits] using hh
    refine pure_grow Tryd.call32 (by have := Lib.itoa_length_le x0 h1.1 h1.2; unfold maxLen; omega) fun w M us ho hr => ?_
    obtain ⟨u, r, rfl, hu, hr2⟩ := hr
    have hr2 : r = [] := hr2
    subst hr2
    obtain ⟨rfl, _⟩ := int_of hu
    exact Tryd.strconv_Itoa x0 h1.1 h1.2 w (gl_tab ho)
  · refine ⟨Tryd.call32, fun w M us ho hr => ?_⟩
    obtain ⟨u, r, rfl, hu, hr2⟩ := hr
    exact absurd (int_of hu).2 hh
theorem W_internal_strconv_FormatUint {x0 x1 : Int} {y : Str} (hF0 : F_internal_strconv_FormatUint x0 x1 = some y) : Pure Tryd.prog 41 [vu x0, vi x1] (.v .str y) := by
  unfold F_internal_strconv_FormatUint at hF0
  split at hF0
  · rename_i e
    subst e
    obtain rfl := Option.some.inj hF0
    by_cases hh : IntKind.u64.has x0
    · have h1 : 0 ≤ x0 ∧ x0 ≤ 18446744073709551615 := by simpa [IntKind.has, IntKind.min, IntKind.max, IntKind.signed, IntKind.bits] using hh
      refine pure_grow Tryd.call41 (by have := Lib.nDigits_le20 x0.toNat (by omega); rw [Lib.decDigits_length]; unfold maxLen; omega) fun w M us ho hr => ?_
      obtain ⟨u, r, rfl, hu, u2, r2, rfl, hu2, hr2⟩ := hr
      have hr2 : r2 = [] := hr2
      subst hr2
      obtain ⟨rfl, _⟩ := int_of hu
      obtain ⟨rfl, _⟩ := int_of hu2
      have := w_FormatUintIn x0.toNat (by omega) w (gl_tab ho)
      rw [Int.toNat_of_nonneg h1.1] at this
      exact this
    · refine ⟨Tryd.call41, fun w M us ho hr => ?_⟩
      obtain ⟨u, r, rfl, hu, hr2⟩ := hr
      exact absurd (int_of hu).2 hh
  · cases hF0

theorem gl_max {M : Fz} {w : World} (h : Over M w) : ∃ m, w.cell? ⟨(Tryd.prog.globalNamed "internal/bytealg.MaxLen").getD 0, 0, none⟩ = some (.int .i64 m) := by
  obtain ⟨c, m, h1, h2⟩ := h.gl.num _ (List.mem_singleton.2 rfl)
  obtain ⟨t, fr, e⟩ := h.cells _ _ h1
  exact ⟨m, by simp [World.cell?, e, h2]⟩
theorem str_of {M : Fz} {x : Str} {u : Value} (h : RelV Tryd.prog M φ0 (.v .str x) u) : u = .string (bs x) ∧ x.length ≤ maxLen := by
  obtain ⟨_, cs, rfl, rfl, h⟩ := h
  exact ⟨rfl, h⟩
def F_strings_Contains (x0 x1 : Str) : Option Bool := if x0.length < 4294967281 then some (Lib.contains x0 x1) else none
theorem W_strings_Contains {x0 x1 : Str} {y : Bool} (hF0 : F_strings_Contains x0 x1 = some y) : Pure Tryd.prog 48 [vs x0, vs x1] (.v .bool y) := by
  unfold F_strings_Contains at hF0
  split at hF0
  · rename_i hl
    obtain rfl := Option.some.inj hF0
    refine ⟨Tryd.call48, fun w M us ho hr => ?_⟩
    obtain ⟨u, r, rfl, hu, u2, r2, rfl, hu2, hr2⟩ := hr
    have hr2 : r2 = [] := hr2
    subst hr2
    obtain ⟨rfl, _⟩ := str_of hu
    obtain ⟨rfl, _⟩ := str_of hu2
    obtain ⟨m, hm⟩ := gl_max ho
    refine (Tryd.strings_Contains (bs x0) (bs x1) m w (by rw [bs_size]; exact hl) hm).mono ?_
    rintro e w' ⟨rfl, rfl⟩
    exact ⟨M, _, rfl, Below.refl _ _, Fz.le_refl _, fun _ _ => rfl, ho, rfl, _, rfl, rfl⟩
  · cases hF0
theorem map_bs (l : List Str) : (l.map bs).map (·.data.toList) = l := by
  rw [List.map_map]
  conv => rhs; rw [← List.map_id l]
  apply List.map_congr_left
  intro a _
  simp [bs]
theorem repL_strs {M : Fz} {φ : Nat → Value} : ∀ {vs : List Value} {l : List Str}, RepL (RepC Tryd.prog φ .str M) vs l → vs = l.map fun x => .string (bs x)
  | vs, [], h => h
  | vs, x :: l, ⟨c, r, e, h1, h2⟩ => by
    obtain ⟨rfl, _⟩ := h1
    rw [e, repL_strs h2]
    rfl
def F_strings_Join (x0 : List Str) (x1 : Str) : Option Str := if x0.length ≤ 140737488355328 ∧ (Lib.join x0 x1).length ≤ 140737488355328 then some (Lib.join x0 x1) else none
theorem W_strings_Join {x0 : List Str} {x1 y : Str} (hF0 : F_strings_Join x0 x1 = some y) : Pure Tryd.prog 22 [.v (.sl .str) x0, vs x1] (.v .str y) := by
  unfold F_strings_Join at hF0
  split at hF0
  · rename_i hl
    obtain rfl := Option.some.inj hF0
    refine ⟨Tryd.call22, fun w M us ho hr => ?_⟩
    obtain ⟨u, r, rfl, ⟨_, cs, rfl, A, n, cap, vs, rfl, hn, ⟨hnc, hcm⟩, hcl, hv⟩, u2, r2, rfl, hu2, hr2⟩ := hr
    have hr2 : r2 = [] := hr2
    subst hr2
    obtain ⟨rfl, _⟩ := str_of hu2
    have hvs := repL_strs hv
    have fin : ∀ w', RowKit.Below w.heap.size w w' → ∃ M' v, Ending.returned (.string (bs (Lib.join x0 x1))) = .returned v ∧ RowKit.Below w.heap.size w w' ∧ M.le M' ∧ (∀ g, g < w.heap.size → M' g = M g) ∧ Over M' w' ∧ RelV Tryd.prog M' φ0 (.v .str (Lib.join x0 x1)) v := fun w' hb =>
      ⟨M, _, rfl, hb, Fz.le_refl _, fun _ _ => rfl, ⟨fun g c hg => by
        obtain ⟨t, fr, e⟩ := ho.cells g c hg
        exact ⟨t, fr, (hb.block g (Array.getElem?_eq_some_iff.1 e).1).trans e⟩, ho.gl⟩, rfl, [.string (bs (Lib.join x0 x1))], rfl, rfl, by unfold maxLen; have := hl.2; omega⟩
    cases x0 with
    | nil =>
      obtain rfl : n = 0 := hn.symm
      refine (Any.strings_Join_none Tryd.lays156 Tryd.Builder_Extra_156 A cap (bs x1) w).mono ?_
      rintro e w' ⟨rfl, rfl⟩
      exact fin _ (Below.refl _ _)
    | cons x r =>
      have hlen : vs.length = n := by rw [hvs, ← hn]; simp
      obtain ⟨bk, o, c, rfl, hM, hc⟩ := hcl 0 (by rw [hlen, ← hn]; simp)
      obtain ⟨t, fr, e⟩ := ho.cells _ _ hM
      have := Tryd.strings_Join bk o cap ((x :: r).map bs) (bs x1) w (fun j s hj => ?_) (Array.getElem?_eq_some_iff.1 e).1 (by simpa using hl.1) (by rw [List.length_map, hn]; exact hnc) (by rw [map_bs]; simpa [bs] using hl.2)
      · rw [map_bs, List.length_map, hn] at this
        refine this.mono ?_
        rintro e w' ⟨rfl, hb⟩
        have := fin w' hb
        simpa [bs] using this
      · have hj' : j < vs.length := by rw [hvs]; have := (List.getElem?_eq_some_iff.1 hj).1; simpa using this
        obtain ⟨b2, o2, c2, e1, e2, e3⟩ := hcl j hj'
        simp only [Option.some.injEq, Addr.mk.injEq, and_true] at e1
        obtain ⟨rfl, rfl⟩ := e1
        rw [hM] at e2
        obtain rfl := Option.some.inj e2
        rw [hvs, List.getElem?_map] at e3
        rw [List.getElem?_map] at hj
        simp only [World.cell?, e]
        cases hx : (x :: r)[j]? with
        | none => rw [hx] at hj; cases hj
        | some s' =>
          rw [hx] at hj e3
          simp only [Option.map_some, Option.some.injEq] at hj e3
          subst hj
          simpa using e3
  · cases hF0
end Go.Proofs.YtlhbekiplnmolaaDoor
