/- The machine's side, told once: a part of a row is cleared. -/
import Derived.Test.YtlhbekiplnmolaaDoorEBc
set_option linter.unusedVariables false
set_option linter.unusedSimpArgs false
namespace Go.Proofs.YtlhbekiplnmolaaDoor
open Go.RowKit

theorem zero_list (z : Array Value) : (List.range z.size).map (fun i => z[i]!) = z.toList := by
  apply List.ext_getElem
  · simp
  · intro i h1 h2
    simp only [List.length_map, List.length_range] at h1
    simp [h1]
theorem zero_cells {z : Array Value} : ∀ (n : Nat), (Builtin.zeroCells z n).toList = (List.replicate n z.toList).flatten
  | 0 => by simp [Builtin.zeroCells]
  | n + 1 => by
    have ih := zero_cells (z := z) n
    simp only [Builtin.zeroCells, Array.toList_map, Array.toList_range] at ih ⊢
    rw [Nat.succ_mul, List.range_add, List.map_append, ih, List.replicate_succ', List.flatten_append]
    congr 1
    simp only [List.flatten_cons, List.flatten_nil, List.append_nil, List.map_map]
    rw [← zero_list z]
    apply List.map_congr_left
    intro i hi
    have hi := List.mem_range.1 hi
    simp only [Function.comp_apply]
    rw [Nat.mul_comm n, Nat.mul_add_mod, Nat.mod_eq_of_lt hi]

section
variable {P : Program} {n0 : Nat} {b : Base n0} {M : Fz} {φ : Nat → Value} {ξ : Nat → Option Nat} {H : AStore} {w : World} {ρ : AEnv}
theorem RepL_app2 {α : Type} {R : List Value → α → Prop} : ∀ {us vs : List Value} {xs ys : List α}, RepL R us xs → RepL R vs ys → RepL R (us ++ vs) (xs ++ ys)
  | us, vs, [], ys, h, h2 => by cases h; exact h2
  | us, vs, x :: xs, ys, ⟨c, r, e, h1, h2⟩, h3 => ⟨c, r ++ vs, by rw [e, List.append_assoc], h1, RepL_app2 h2 h3⟩
theorem RepL_rep {α : Type} {R : List Value → α → Prop} {c : List Value} {x : α} (h : R c x) : ∀ n, RepL R (List.replicate n c).flatten (List.replicate n x)
  | 0 => rfl
  | n + 1 => ⟨c, (List.replicate n c).flatten, by simp [List.replicate_succ], h, RepL_rep h n⟩
/-- A row in three parts. -/
theorem RepL_cut {α : Type} {R : List Value → α → Prop} {sz : Nat} (hl : ∀ c x, R c x → c.length = sz) : ∀ {n : Nat} {vs : List Value} {xs : List α}, n ≤ xs.length → RepL R vs xs → RepL R (vs.take (n * sz)) (xs.take n) ∧ RepL R (vs.drop (n * sz)) (xs.drop n)
  | 0, vs, xs, _, h => by simpa [RepL] using h
  | n + 1, vs, [], hn, h => by simp at hn
  | n + 1, vs, x :: xs, hn, h => by
    obtain ⟨c, r, e, h1, h2⟩ := h
    subst e
    obtain ⟨k1, k2⟩ := RepL_cut hl (n := n) (by simpa using hn) h2
    have hc := hl c x h1
    refine ⟨⟨c, r.take (n * sz), ?_, h1, k1⟩, ?_⟩
    · rw [Nat.succ_mul, Nat.add_comm, ← hc, List.take_length_add_append]
    · rw [Nat.succ_mul, Nat.add_comm, ← List.drop_drop, ← hc, List.drop_left, hc]
      exact k2

def clrA (P : Program) (H : AStore) (T : TypeId) : AVal → Option (AStore × List Prop)
  | .sub L sz lo n => match look H L with
    | some (.row e s xs) => match slB P T, P.info? e with
      | some e', some i => match i.zero with
        | some z => match dec s z.cells.toList with
          | some (d, []) => if Nat.beq e e' && rowB P e s && Nat.beq sz s.size then some (setL H L (.row e s (List.take lo xs ++ (List.replicate n d ++ List.drop (lo + n) xs))), [lo + n ≤ List.length xs]) else none
          | _ => none
        | none => none
      | _, _ => none
    | _ => none
  | _ => none
theorem does_clear {T ty : TypeId} {x : Operand} {α : AVal} {N : Nat} {H' : AStore} {C : List Prop} {dst pos after guard} (hx : evA P ρ T x = some α) (hb : clrA P H T α = some (H', C)) (hC : AllP C) :
    Does P b ρ H ⟨dst, .call ⟨.builtin .clear, #[x], #[T]⟩, ty, pos, after, guard⟩ (.tup []) H' N := by
  intro M φ ξ w a hc he
  have hu := evA_ok he hx
  have exec : ∀ {r : Value} {w' : World}, (Builtin.clear_ #[T] ty #[a.eval x]).run P w = .ok r w' → (execOp a.eval ⟨dst, .call ⟨.builtin .clear, #[x], #[T]⟩, ty, pos, after, guard⟩).run P w = .ok (.value r) w' := by
    intro r w' h
    simp [execOp, resolve, invoke, builtin, h]
  have tupl : RelV P M φ (.tup []) (.tuple #[]) := ⟨[], rfl, rfl⟩
  unfold clrA at hb
  split at hb
  · rename_i L sz lo n
    split at hb
    · rename_i e s xs hl
      split at hb
      · rename_i e' i hT hi
        split at hb
        · rename_i z hz
          split at hb
          · rename_i d hd
            split at hb
            · rename_i hh
              simp only [Bool.and_eq_true] at hh
              obtain ⟨⟨k1, k2⟩, k3⟩ := hh
              have k1 := Nat.eq_of_beq_eq_true k1
              have k3 := Nat.eq_of_beq_eq_true k3
              subst k1 k3
              simp only [Option.some.injEq, Prod.mk.injEq] at hb
              obtain ⟨rfl, rfl⟩ := hb
              have hlo : lo + n ≤ xs.length := hC.1
              obtain ⟨i', z', hi', hz', hsz, hzs, h0, hf, hv, hp⟩ := rowB_ok k2
              rw [hi] at hi'
              obtain rfl := Option.some.inj hi'
              rw [hz] at hz'
              obtain rfl := Option.some.inj hz'
              obtain ⟨H1, H2, rfl, hset, _⟩ := look_split hl
              rw [hset]
              obtain ⟨A, m, c, q1, q2, q3, B, e5, q4⟩ := hu
              rw [e5] at exec
              have hm : (L, AItem.row e s xs) ∈ H1 ++ (L, AItem.row e s xs) :: H2 := by simp
              obtain ⟨_, A', cap, h1, h2⟩ := hc.items L _ hm
              rw [h1] at q1
              simp only [Value.slice.injEq] at q1
              obtain ⟨rfl, rfl, rfl⟩ := q1
              obtain ⟨dc, hdc, hdr⟩ := dec_ok (P := P) (φ := φ) (M := M) hd
              rw [List.append_nil] at hdc
              subst hdc
              have hun := run_underlying (w := w) (slB_ok hT)
              by_cases hn : n = 0
              · subst hn
                have same : List.take lo xs ++ (List.replicate 0 d ++ List.drop (lo + 0) xs) = xs := by simp
                rw [same]
                refine ⟨M, φ, ξ, w, .tuple #[], .inl (exec ?_), hc, he, ⟨Fz.le_refl _, fun _ _ => rfl⟩, tupl⟩
                cases B <;> simp [Builtin.clear_, hun]
              · rcases h2 with ⟨_, rfl, rfl, rfl⟩ | ⟨g, cc, g1, rfl, g3, g4, g5, g6, g7⟩
                · simp at hlo; omega
                · have ea : B = some ⟨g, lo * s.size, none⟩ := by
                    rw [q4.1 (by omega)]
                    by_cases zz : lo * s.size = 0 <;> simp [Addr.add, zz]
                  subst ea
                  have hfl : ∀ (c : List Value) (x : s.ty), RepC P φ s M c x → c.length = s.size := fun c y hc => rep_len hf hc
                  have hlen := RepL_len hfl g7
                  obtain ⟨r1, r2⟩ := RepL_cut hfl (n := lo) (by omega) g7
                  obtain ⟨r3, r4⟩ := RepL_cut hfl (n := n) (xs := xs.drop lo) (by simp; omega) r2
                  rw [show List.drop n (List.drop lo xs) = List.drop (lo + n) xs from List.drop_drop] at r4
                  have hrep := RepL_rep hdr n
                  have split : cc.toList = (cc.toList.take (xs.length * s.size)).take (lo * s.size) ++ (((cc.toList.take (xs.length * s.size)).drop (lo * s.size)).take (n * s.size)) ++ ((((cc.toList.take (xs.length * s.size)).drop (lo * s.size)).drop (n * s.size)) ++ cc.toList.drop (xs.length * s.size)) := by
                    rw [← List.append_assoc, List.append_assoc ((cc.toList.take (xs.length * s.size)).take (lo * s.size)), List.take_append_drop, List.take_append_drop, List.take_append_drop]
                  have l1 : ((cc.toList.take (xs.length * s.size)).take (lo * s.size)).length = lo * s.size := by
                    rw [RepL_len hfl r1, List.length_take, Nat.min_eq_left (by omega)]
                  have l2 : (((cc.toList.take (xs.length * s.size)).drop (lo * s.size)).take (n * s.size)).length = (Builtin.zeroCells z.cells n).toList.length := by
                    rw [RepL_len hfl r3, zero_cells, RepL_len hfl hrep, List.length_take, List.length_drop, List.length_replicate, Nat.min_eq_left (by omega)]
                  obtain ⟨w', t1, t2, t3, t4, t5, t6, t7⟩ := run_storeCellsAt (P := P) (Builtin.zeroCells z.cells n).toList (off := lo * s.size) (i := 0) g3 split (by rw [l1]; rfl) l2 (by rw [zero_cells]; exact RepL_one (fun c y hc => rep_one (s := s) hc) hrep)
                  refine ⟨M, φ, ξ, w', .tuple #[], .inl (exec ?_), ?_, he, ⟨Fz.le_refl _, fun _ _ => rfl⟩, tupl⟩
                  · obtain ⟨n', rfl⟩ : ∃ n', n = n' + 1 := ⟨n - 1, by omega⟩
                    simp [Builtin.clear_, hun, zeroValue, typeInfo, hi, hz, t1]
                  · refine hc.write g1 t3 t4 t5 (by omega) (fun k hk => t7 k hk) ⟨hf, some ⟨g, 0, none⟩, cap, ?_, .inr ⟨g, _, g1, rfl, t2, ?_, g5, ?_, ?_⟩⟩
                    · rw [h1]; simp; omega
                    · simp; omega
                    · have := congrArg List.length split
                      simp only [List.length_append] at this
                      rw [← g6]
                      simp only [List.size_toArray, List.length_append]
                      rw [← l2]
                      simpa using this.symm
                    · have all : RepL (RepC P φ s M) ((cc.toList.take (xs.length * s.size)).take (lo * s.size) ++ ((Builtin.zeroCells z.cells n).toList ++ ((cc.toList.take (xs.length * s.size)).drop (lo * s.size)).drop (n * s.size))) (List.take lo xs ++ (List.replicate n d ++ List.drop (lo + n) xs)) := RepL_app2 r1 (RepL_app2 (by rw [zero_cells]; exact hrep) r4)
                      have hal := RepL_len hfl all
                      show RepL _ (List.take _ (_ ++ _ ++ (_ ++ _))) _
                      rw [List.append_assoc, ← List.append_assoc _ _ (List.drop (xs.length * s.size) cc.toList), ← List.append_assoc _ _ (List.drop (xs.length * s.size) cc.toList), List.take_left' hal]
                      exact all
            · cases hb
          · cases hb
        · cases hb
      · cases hb
    · cases hb
  · cases hb
end
end Go.Proofs.YtlhbekiplnmolaaDoor
