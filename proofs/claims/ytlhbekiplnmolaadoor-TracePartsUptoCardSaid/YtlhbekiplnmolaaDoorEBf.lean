/- The machine's side, told once: a string's bytes appended to a row of bytes. -/
import Derived.Test.YtlhbekiplnmolaaDoorEBe
import Derived.Lib.AppendStr
set_option linter.unusedVariables false
set_option linter.unusedSimpArgs false
namespace Go.Proofs.YtlhbekiplnmolaaDoor
open Go.RowKit

def byI (x : Str) : List Int := x.map fun b => ((b.toNat : Nat) : Int)
/-- The look at a type of bytes. -/
def byB (P : Program) (e : TypeId) : Bool := match P.info? e with
  | some i => (match i.zero with | some (.int .u8 0) => true | _ => false) && Nat.beq i.size 1 && Nat.beq i.bytes 1
  | none => false
def strT (P : Program) (u : TypeId) : Bool := match P.underlying u with
  | some .string => true
  | _ => false
/-- append of a string: onto a row; the row has a new label. -/
def appS (P : Program) (n0 : Nat) (ρ : AEnv) (H : AStore) (T U : TypeId) (N : Nat) : AVal → AVal → Option (AVal × AStore × List Prop)
  | .row L, .v .str x => match look H L, slB P T with
    | some (.row e (.int .u8) xs), some e' => if Nat.beq e e' && byB P e && strT P U && freshB n0 N ρ H then
        some (.row N, (N, .row e (.int .u8) (xs ++ byI x)) :: remL H L, [xs.length + x.length ≤ 140737488355328])
      else none
    | _, _ => none
  | _, _ => none

section
variable {P : Program} {n0 : Nat} {b : Base n0} {M : Fz} {φ : Nat → Value} {ξ : Nat → Option Nat} {H : AStore} {w : World} {ρ : AEnv}

theorem byB_ok {e : TypeId} (h : byB P e = true) : ∃ i, P.info? e = some i ∧ i.zero = some (.int .u8 0) ∧ i.size = 1 ∧ i.bytes = 1 := by
  unfold byB at h
  split at h
  · rename_i i hi
    simp only [Bool.and_eq_true] at h
    obtain ⟨⟨h1, h2⟩, h3⟩ := h
    refine ⟨i, hi, ?_, Nat.eq_of_beq_eq_true h2, Nat.eq_of_beq_eq_true h3⟩
    split at h1
    · rename_i hz; exact hz
    · cases h1
  · cases h
theorem strT_ok {u : TypeId} (h : strT P u = true) : P.underlying u = some .string := by
  unfold strT at h
  split at h
  · assumption
  · cases h
theorem rep_byI : ∀ x : Str, RepL (RepC P φ (.int .u8) M) (Lib.strCells (bs x)) (byI x)
  | [] => rfl
  | c :: x => ⟨[.int .u8 ((c.toNat : Nat) : Int)], Lib.strCells (bs x), by simp [Lib.strCells, bs], ⟨rfl, by have := c.toNat_lt; simp [IntKind.has, IntKind.min, IntKind.max, IntKind.signed, IntKind.bits]; omega⟩, rep_byI x⟩

/-- The row that it gives: told over any old handle. -/
theorem run_appS {t u ty e : TypeId} {A : Option Addr} {o : Option Nat} {n cap : Nat} {xs : List Int} {x : Str} {olds : List Value} (hT : P.underlying t = some (.slice e)) (hU : P.underlying u = some .string) (hb : byB P e = true)
    (hx : RepL (RepC P φ (.int .u8) M) olds xs) (hxl : xs.length = n) (hcap : n ≤ cap) (hcm : cap ≤ maxLen)
    (hold : (cap = 0 ∧ o = none) ∨ ∃ g c, o = some g ∧ A = some ⟨g, 0, none⟩ ∧ w.heap[g]? = some (.cells c e (0, 0)) ∧ c.size = cap ∧ c.toList.take n = olds)
    (h1 : n + x.length ≤ 140737488355328) :
    ∃ A' cap' w', (Builtin.append_ #[t, u] ty #[.slice A n cap, .string (bs x)]).run P w = .ok (.slice A' (n + x.length) cap') w' ∧ w'.os = w.os ∧ w'.tape = w.tape ∧ w'.output = w.output ∧ w.heap.size ≤ w'.heap.size ∧
      (∀ k, k < w.heap.size → o ≠ some k → w'.heap[k]? = w.heap[k]?) ∧
      ((x = [] ∧ A' = A ∧ cap' = cap ∧ w' = w) ∨ ∃ g c, A' = some ⟨g, 0, none⟩ ∧ (g = w.heap.size ∨ o = some g) ∧ w'.heap[g]? = some (.cells c e (0, 0)) ∧ n + x.length ≤ cap' ∧ cap' ≤ maxLen ∧ c.size = cap' ∧ RepL (RepC P φ (.int .u8) M) (c.toList.take (n + x.length)) (xs ++ byI x)) := by
  obtain ⟨i, hi, hz, hsz, hby⟩ := byB_ok hb
  have hol : olds.length = n := by have := RepL_len (k := 1) (fun c y hc => rep_len (s := .int .u8) rfl hc) hx; omega
  have hsl : (bs x).size = x.length := by simp [bs, ByteArray.size]
  have hnl : (Lib.strCells (bs x)).length = x.length := by rw [Lib.strCells_length, hsl]
  have hrep := repL_app hx (rep_byI (P := P) (φ := φ) (M := M) x)
  rcases Nat.eq_zero_or_pos x.length with hy0 | hy0
  · have hys : x = [] := List.eq_nil_of_length_eq_zero hy0
    subst hys
    have hf := Lib.run_firstCells_string (P := P) w 1 (bs [])
    refine ⟨A, cap, w, ?_, rfl, rfl, rfl, Nat.le_refl _, fun _ _ _ => rfl, .inl ⟨rfl, rfl, rfl, rfl⟩⟩
    have hb0 : (bs []).size = 0 := rfl
    have hc0 : Lib.strCells (bs []) = [] := rfl
    rw [hb0, hc0] at hf
    cases A with
    | none => simp [Builtin.append_, run_underlying hT, run_underlying hU, sizeOf, typeInfo, hi, hsz, Builtin.lenOf, hcap, hb0, hf]
    | some a => simp [Builtin.append_, run_underlying hT, run_underlying hU, sizeOf, typeInfo, hi, hsz, Builtin.lenOf, hcap, hb0, hf, storeCells]
  · have h2 : n + x.length ≤ maxLen := by unfold maxLen; omega
    have fin : ∀ old, (w.drew.alloc (.cells (olds.toArray ++ (Lib.strCells (bs x)).toArray ++ Builtin.zeroCells (Value.int .u8 0).cells (grownCap w (n + x.length) old e - (n + x.length))) e)).heap[w.heap.size]? = some (.cells (olds.toArray ++ (Lib.strCells (bs x)).toArray ++ Builtin.zeroCells (Value.int .u8 0).cells (grownCap w (n + x.length) old e - (n + x.length))) e (0, 0)) := fun old => heap_alloc_new w.drew _
    have hz1 : (Value.int .u8 0).cells.size = 1 := rfl
    have big : ∀ old, (olds.toArray ++ (Lib.strCells (bs x)).toArray ++ Builtin.zeroCells (Value.int .u8 0).cells (grownCap w (n + x.length) old e - (n + x.length))).size = grownCap w (n + x.length) old e ∧
        RepL (RepC P φ (.int .u8) M) ((olds.toArray ++ (Lib.strCells (bs x)).toArray ++ Builtin.zeroCells (Value.int .u8 0).cells (grownCap w (n + x.length) old e - (n + x.length))).toList.take (n + x.length)) (xs ++ byI x) := by
      intro old
      have hge := grownCap_ge w (n + x.length) old e
      constructor
      · simp only [Array.size_append, List.size_toArray, size_zeroCells, hz1, hol, hnl, Nat.mul_one]
        omega
      · have : (olds.toArray ++ (Lib.strCells (bs x)).toArray ++ Builtin.zeroCells (Value.int .u8 0).cells (grownCap w (n + x.length) old e - (n + x.length))).toList.take (n + x.length) = olds ++ Lib.strCells (bs x) := by
          simp only [Array.toList_append]
          rw [List.take_append_of_le_length (by simp [hol, hnl]), List.take_of_length_le (by simp [hol, hnl])]
        rw [this]
        exact hrep
    have grow : ∀ old, ∃ cap' w', w' = w.drew.alloc (.cells (olds.toArray ++ (Lib.strCells (bs x)).toArray ++ Builtin.zeroCells (Value.int .u8 0).cells (grownCap w (n + x.length) old e - (n + x.length))) e) ∧ cap' = grownCap w (n + x.length) old e ∧ w'.os = w.os ∧ w'.tape = w.tape ∧ w'.output = w.output ∧ w.heap.size ≤ w'.heap.size ∧ (∀ k, k < w.heap.size → w'.heap[k]? = w.heap[k]?) ∧ n + x.length ≤ cap' ∧ cap' ≤ maxLen :=
      fun old => ⟨_, _, rfl, rfl, rfl, rfl, rfl, by simp, fun k hk => heap_alloc_old w.drew _ hk, grownCap_ge _ _ _ _, grownCap_le_maxLen w (n + x.length) old e h2⟩
    rcases hold with ⟨hc0, rfl⟩ | ⟨g, c, rfl, rfl, hg, hcs, htk⟩
    · have hn0 : n = 0 := by omega
      have ho0 : olds = [] := List.eq_nil_of_length_eq_zero (by omega)
      subst hc0
      cases A with
      | none =>
        have hr := run_append_nil_string (P := P) w t u ty e i _ hT hU hi hz (bs x) (by omega) (by omega) (by rw [hby]; omega)
        rw [hsl] at hr
        obtain ⟨cap', w', rfl, rfl, g1, g2, g3, g4, g5, g6, g7⟩ := grow 0
        refine ⟨_, _, _, ?_, g1, g2, g3, g4, fun k hk _ => g5 k hk, .inr ⟨w.heap.size, _, rfl, .inl rfl, fin 0, g6, g7, (big 0).1, (big 0).2⟩⟩
        subst hn0
        rw [hr]
        subst ho0
        have e1 : (bs x).data.map (fun b => Value.int .u8 (b.toNat : Int)) = (Lib.strCells (bs x)).toArray := by apply Array.ext'; simp [Lib.strCells]
        rw [e1]
        simp
      | some b0 =>
        have hr := Lib.run_append_grow_string (P := P) w t u ty e i _ hT hU hi hz b0 n 0 olds (by rw [hsz]; omega) (by subst ho0; intro j v hj; simp at hj) (bs x) (by omega) (by omega) (by rw [hby, hsl]; exact growslice_fits (by omega) (by omega))
        rw [hsl] at hr
        obtain ⟨cap', w', rfl, rfl, g1, g2, g3, g4, g5, g6, g7⟩ := grow 0
        exact ⟨_, _, _, hr, g1, g2, g3, g4, fun k hk _ => g5 k hk, .inr ⟨w.heap.size, _, rfl, .inl rfl, fin 0, g6, g7, (big 0).1, (big 0).2⟩⟩
    · by_cases hroom : n + x.length ≤ cap
      · have hr := Lib.run_append_room_string (P := P) w t u ty e i hT hU hi hsz g n cap c hg (bs x) (by omega) (by omega)
        rw [hsl] at hr
        refine ⟨_, _, _, hr, rfl, rfl, rfl, by simp, fun k _ hk => setRow_other w g k _ (fun e => hk (by simp [e])), .inr ⟨g, _, rfl, .inr rfl, setRow_heap w g c _ e _ hg, hroom, hcm, ?_, ?_⟩⟩
        · simp only [List.size_toArray, List.length_append, List.length_take, List.length_drop, Array.length_toList]
          omega
        · rw [htk]
          have : (olds ++ Lib.strCells (bs x) ++ c.toList.drop (n + x.length)).take (n + x.length) = olds ++ Lib.strCells (bs x) := by
            rw [List.take_append_of_le_length (by simp [hol, hnl]), List.take_of_length_le (by simp [hol, hnl])]
          simp only
          rw [this]
          exact hrep
      · have holds : ∀ j u, olds[j]? = some u → w.cell? ((⟨g, 0, none⟩ : Addr).add j) = some u := by
          intro j u hj
          rw [addz, Nat.zero_add]
          have hj' := (List.getElem?_eq_some_iff.1 hj).1
          rw [← htk, List.getElem?_take_of_lt (by rw [← htk, List.length_take] at hj'; omega)] at hj
          simp [World.cell?, hg]
          simpa using hj
        have hr := Lib.run_append_grow_string (P := P) w t u ty e i _ hT hU hi hz ⟨g, 0, none⟩ n cap olds (by rw [hsz]; omega) holds (bs x) (by omega) (by omega) (by rw [hby, hsl]; exact growslice_fits (by omega) (by omega))
        rw [hsl] at hr
        obtain ⟨cap', w', rfl, rfl, g1, g2, g3, g4, g5, g6, g7⟩ := grow cap
        exact ⟨_, _, _, hr, g1, g2, g3, g4, fun k hk _ => g5 k hk, .inr ⟨w.heap.size, _, rfl, .inl rfl, fin cap, g6, g7, (big cap).1, (big cap).2⟩⟩

theorem does_appS {T U ty : TypeId} {x y : Operand} {α γ β : AVal} {N : Nat} {H' : AStore} {C : List Prop} {dst pos after guard} (hx : evA P ρ T x = some α) (hy : evA P ρ U y = some γ) (hb : appS P n0 ρ H T U N α γ = some (β, H', C)) (hC : AllP C) :
    Does P b ρ H ⟨dst, .call ⟨.builtin .append, #[x, y], #[T, U]⟩, ty, pos, after, guard⟩ β H' N := by
  intro M φ ξ w a hc he
  have hu := evA_ok he hx
  have hv := evA_ok he hy
  have exec : ∀ {r : Value} {w' : World}, (Builtin.append_ #[T, U] ty #[a.eval x, a.eval y]).run P w = .ok r w' → (execOp a.eval ⟨dst, .call ⟨.builtin .append, #[x, y], #[T, U]⟩, ty, pos, after, guard⟩).run P w = .ok (.value r) w' := by
    intro r w' h
    simp [execOp, resolve, invoke, builtin, h]
  unfold appS at hb
  split at hb
  · rename_i L t
    split at hb
    · rename_i e xs e' hl hT
      split at hb
      · rename_i hh
        simp only [Bool.and_eq_true] at hh
        obtain ⟨⟨⟨k1, k2⟩, k4⟩, k3⟩ := hh
        have k1 := Nat.eq_of_beq_eq_true k1
        subst k1
        simp only [Option.some.injEq, Prod.mk.injEq] at hb
        obtain ⟨rfl, rfl, rfl⟩ := hb
        obtain ⟨c1, _⟩ := hC
        obtain ⟨e5, _⟩ := hu
        obtain ⟨_, cs, e6, e7, _⟩ := hv
        subst e7
        have e6 : a.eval y = .string (bs t) := e6
        obtain ⟨hf, A, cap, h1, h2⟩ := hc.items L _ (look_mem hl)
        obtain ⟨H1, H2, hH, _, hrem⟩ := look_split hl
        rw [e5, h1, e6] at exec
        have olds : ∃ olds, RepL (RepC P φ (.int .u8) M) olds xs ∧ xs.length ≤ cap ∧ cap ≤ maxLen ∧ ((cap = 0 ∧ ξ L = none) ∨ ∃ g c, ξ L = some g ∧ A = some ⟨g, 0, none⟩ ∧ w.heap[g]? = some (.cells c e (0, 0)) ∧ c.size = cap ∧ c.toList.take xs.length = olds) := by
          rcases h2 with ⟨h2, rfl, rfl, rfl⟩ | ⟨g, c, h2, rfl, h4, h5, h6, h7, h8⟩
          · exact ⟨[], rfl, Nat.le_refl _, by simp [maxLen], .inl ⟨rfl, h2⟩⟩
          · refine ⟨_, ?_, h5, h6, .inr ⟨g, c, h2, rfl, h4, by simpa [Sh.size] using h7, rfl⟩⟩
            have : xs.length * (Sh.int .u8).size = xs.length := by simp [Sh.size]
            rw [this] at h8
            exact h8
        obtain ⟨olds, o1, o2, o3, o4⟩ := olds
        obtain ⟨A', cap', w', r1, r2, r3, r4, r5, r6, r7⟩ := run_appS (ty := ty) (slB_ok hT) (strT_ok k4) k2 o1 rfl o2 o3 o4 c1
        rw [hrem]
        subst hH
        have hbl : (byI t).length = t.length := by simp [byI]
        rcases r7 with ⟨rfl, rfl, rfl, rfl⟩ | ⟨g, c, rfl, q2, q3, q4, q5, q6, q7⟩
        · refine ⟨M, upd φ N _, upd ξ N (ξ L), w', _, .inl (exec r1), ?_, he.labs (fresh_env k3 _ _), ⟨Fz.le_refl _, fun l hl => upd_ne (by omega)⟩, by rw [RelV, upd_same]; exact ⟨rfl, rfl⟩⟩
          refine hc.repl k3 r2 r3 r4 r5 r6 ⟨hf, A', cap', by simp [byI], ?_⟩ (fun g hg => .inr hg)
          rcases h2 with ⟨h2, rfl, rfl, rfl⟩ | ⟨g, c, h2, rfl, h4, h5, h6, h7, h8⟩
          · exact .inl ⟨h2, rfl, rfl, rfl⟩
          · refine .inr ⟨g, c, h2, rfl, h4, by simpa [byI] using h5, h6, h7, ?_⟩
            rw [show byI [] = [] from rfl, List.append_nil]
            exact rep_pers (s := .lst (.int .u8)) rfl h8
        · refine ⟨M, upd φ N _, upd ξ N (some g), w', _, .inl (exec r1), ?_, he.labs (fresh_env k3 _ _), ⟨Fz.le_refl _, fun l hl => upd_ne (by omega)⟩, by rw [RelV, upd_same]; exact ⟨rfl, rfl⟩⟩
          refine hc.repl k3 r2 r3 r4 r5 r6 ⟨hf, _, cap', by simp [hbl], .inr ⟨g, c, rfl, rfl, q3, by simpa [hbl] using q4, q5, by simpa [Sh.size] using q6, ?_⟩⟩ (fun g' hg => ?_)
          · have : (xs ++ byI t).length * (Sh.int .u8).size = xs.length + t.length := by simp [Sh.size, hbl]
            rw [this]
            exact rep_pers (s := .lst (.int .u8)) rfl q7
          · obtain rfl := Option.some.inj hg
            rcases q2 with h | h
            · exact .inl (Nat.le_of_eq h.symm)
            · exact .inr h
      · cases hb
    · cases hb
  · cases hb
end
end Go.Proofs.YtlhbekiplnmolaaDoor
