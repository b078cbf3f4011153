/- The machine's side, told once: views appended where there is room; slices with a bound of their own. -/
import Derived.Test.YtlhbekiplnmolaaDoorEBd
set_option linter.unusedVariables false
set_option linter.unusedSimpArgs false
namespace Go.Proofs.YtlhbekiplnmolaaDoor
open Go.RowKit

section
variable {P : Program} {n0 : Nat} {b : Base n0} {M : Fz} {φ : Nat → Value} {ξ : Nat → Option Nat} {H : AStore} {w : World} {ρ : AEnv}

def newsV (H : AStore) (s : Sh) : AVal → Option (List s.ty × List Prop)
  | .sub L sz lo m => match look H L with
    | some (.row _ t ys) => if h : t = s then (if Nat.beq sz s.size then some (h ▸ ((ys.drop lo).take m), [lo + m ≤ ys.length]) else none) else none
    | _ => none
  | α => match newsA H s α with
    | some ys => some (ys, [])
    | none => none
theorem newsV_ok (hc : Core P b M φ ξ H w) {s : Sh} {α : AVal} {ys : List s.ty} {C : List Prop} {u : Value} (hu : RelV P M φ α u) (h : newsV H s α = some (ys, C)) (hC : AllP C) : ∃ A c news, u = .slice A ys.length c ∧ RepL (RepC P φ s M) news ys ∧ (∀ q, q < news.length → ∃ a, A = some a ∧ a.spot = none) ∧ ∀ a, A = some a → ∀ j v, news[j]? = some v → w.cell? (a.add j) = some v := by
  unfold newsV at h
  split at h
  · split at h
    · rename_i L sz lo m _ e t xs hl
      split at h
      · rename_i e'
        subst e'
        split at h
        · rename_i hs
          have hs := Nat.eq_of_beq_eq_true hs
          subst hs
          simp only [Option.some.injEq, Prod.mk.injEq] at h
          obtain ⟨rfl, rfl⟩ := h
          have hlo : lo + m ≤ xs.length := hC.1
          obtain ⟨A, m', c', q1, q2, q3, B, rfl, q4⟩ := hu
          obtain ⟨hf, A', cap, h1, h2⟩ := hc.items L _ (look_mem hl)
          rw [h1] at q1
          simp only [Value.slice.injEq] at q1
          obtain ⟨rfl, rfl, rfl⟩ := q1
          have hlen : ((xs.drop lo).take m).length = m := by simp; omega
          rw [hlen]
          rcases Nat.eq_zero_or_pos m with hm | hm
          · subst hm
            exact ⟨B, _, [], rfl, by simp [RepL], fun q hq => (by cases hq), fun a ha j v hj => (by simp at hj)⟩
          · rcases h2 with ⟨_, rfl, rfl, rfl⟩ | ⟨g, c, g1, rfl, g3, g4, g5, g6, g7⟩
            · simp at hlo; omega
            · have hfl : ∀ (c : List Value) (x : t.ty), RepC P φ t M c x → c.length = t.size := fun c y hc => rep_len hf hc
              have hvl := RepL_len hfl g7
              have r2 := (RepL_cut hfl (n := lo) (by omega) g7).2
              have r3 := (RepL_cut hfl (n := m) (by simp; omega) r2).1
              refine ⟨B, _, _, rfl, r3, fun q hq => ?_, fun a ha j v hj => ?_⟩
              · rw [q4.1 (by omega)]
                exact ⟨_, rfl, by simp [Addr.add]; split <;> rfl⟩
              · rw [q4.1 (by omega)] at ha
                simp only [Option.map_some, Option.some.injEq] at ha
                subst ha
                have hj' := (List.getElem?_eq_some_iff.1 hj).1
                have hj2 : j < m * t.size := by rw [RepL_len hfl r3] at hj'; rwa [hlen] at hj'
                rw [List.getElem?_take_of_lt hj2, List.getElem?_drop] at hj
                have ea : ((⟨g, 0, none⟩ : Addr).add (lo * t.size)).add j = ⟨g, lo * t.size + j, none⟩ := by
                  rw [addz, Nat.zero_add, addz]
                rw [ea]
                have hj3 := (List.getElem?_eq_some_iff.1 hj).1
                rw [List.getElem?_take_of_lt (by rw [List.length_take] at hj3; omega)] at hj
                simp [World.cell?, g3]
                simpa using hj
        · cases h
      · cases h
    · cases h
  · split at h
    · rename_i ys' hn
      simp only [Option.some.injEq, Prod.mk.injEq] at h
      obtain ⟨rfl, rfl⟩ := h
      exact newsA_ok hc hu hn
    · cases h

/-- append onto a view from a row's beginning, where the row has room. -/
def appV (P : Program) (H : AStore) (T : TypeId) : AVal → AVal → Option (AVal × AStore × List Prop)
  | .sub L sz lo n, γ => match look H L, slB P T with
    | some (.row e s xs), some e' => if Nat.beq e e' && rowB P e s && Nat.beq sz s.size && Nat.beq lo 0 then match newsV H s γ with
      | some (ys, C) => some (.sub L sz 0 (n + ys.length), setL H L (.row e s (xs.take n ++ (ys ++ xs.drop (n + ys.length)))), C ++ [n + ys.length ≤ xs.length])
      | none => none
      else none
    | _, _ => none
  | _, _ => none
theorem does_appV {T ty : TypeId} {x y : Operand} {α γ β : AVal} {N : Nat} {H' : AStore} {C : List Prop} {dst pos after guard} (hx : evA P ρ T x = some α) (hy : evA P ρ T y = some γ) (hb : appV P H T α γ = some (β, H', C)) (hC : AllP C) :
    Does P b ρ H ⟨dst, .call ⟨.builtin .append, #[x, y], #[T, T]⟩, ty, pos, after, guard⟩ β H' N := by
  intro M φ ξ w a hc he
  have hu := evA_ok he hx
  have hv := evA_ok he hy
  have exec : ∀ {r : Value} {w' : World}, (Builtin.append_ #[T, T] ty #[a.eval x, a.eval y]).run P w = .ok r w' → (execOp a.eval ⟨dst, .call ⟨.builtin .append, #[x, y], #[T, T]⟩, ty, pos, after, guard⟩).run P w = .ok (.value r) w' := by
    intro r w' h
    simp [execOp, resolve, invoke, builtin, h]
  unfold appV at hb
  split at hb
  · rename_i L sz lo n
    split at hb
    · rename_i e s xs e' hl hT
      split at hb
      · rename_i hh
        simp only [Bool.and_eq_true] at hh
        obtain ⟨⟨⟨k1, k2⟩, k3⟩, k4⟩ := hh
        have k1 := Nat.eq_of_beq_eq_true k1
        have k3 := Nat.eq_of_beq_eq_true k3
        have k4 := Nat.eq_of_beq_eq_true k4
        subst k1 k3 k4
        split at hb
        · rename_i ys C' hny
          simp only [Option.some.injEq, Prod.mk.injEq] at hb
          obtain ⟨rfl, rfl, rfl⟩ := hb
          obtain ⟨c1, c2, _⟩ := AllP.app hC
          obtain ⟨i, z, hi, hz, hsz, hzs, h0, hf, hv1, hp⟩ := rowB_ok k2
          obtain ⟨B, m, news, e1, e2, e3, e4⟩ := newsV_ok hc hv hny c1
          obtain ⟨H1, H2, rfl, hset, _⟩ := look_split hl
          rw [hset]
          obtain ⟨A, m', c, q1, q2, q3, D, e5, q4⟩ := hu
          have hm : (L, AItem.row e s xs) ∈ H1 ++ (L, AItem.row e s xs) :: H2 := by simp
          obtain ⟨_, A', cap, h1, h2⟩ := hc.items L _ hm
          rw [h1] at q1
          simp only [Value.slice.injEq] at q1
          obtain ⟨rfl, rfl, rfl⟩ := q1
          rw [e5, e1, Nat.sub_zero] at exec
          by_cases hy0 : ys = []
          · subst hy0
            have same : xs.take n ++ ([] ++ xs.drop (n + ([] : List s.ty).length)) = xs := by simp
            rw [same]
            refine ⟨M, φ, ξ, w, _, .inl (exec (run_app0 (slB_ok hT) ⟨s.size, by simp [szB, hi, hsz]⟩ (by omega) w)), hc, he, ⟨Fz.le_refl _, fun _ _ => rfl⟩, A', xs.length, cap, h1, by simp at c2 ⊢; omega, q3, D, by simp, q4⟩
          · have hyl : 0 < ys.length := List.length_pos_iff.2 hy0
            rcases h2 with ⟨_, rfl, rfl, rfl⟩ | ⟨g, cc, g1, rfl, g3, g4, g5, g6, g7⟩
            · simp only [List.length_nil] at c2; omega
            · have ea : D = some ⟨g, 0, none⟩ := by
                rw [q4.1 (by omega)]
                simp [Addr.add]
              subst ea
              have hfl : ∀ (c : List Value) (x : s.ty), RepC P φ s M c x → c.length = s.size := fun c y hc => rep_len hf hc
              have hnl := RepL_len hfl e2
              obtain ⟨a', hB, _⟩ := e3 0 (by rw [hnl]; exact Nat.mul_pos hyl h0)
              subst hB
              have hfit : n * i.size + news.length ≤ cc.size := by rw [hnl, g6, hsz, ← Nat.add_mul]; exact Nat.mul_le_mul_right _ (by omega)
              have hr := run_append_room (P := P) w T ty e i (slB_ok hT) hi g n cap cc g3 a' ys.length m news (by rw [hnl, hsz]) (e4 a' rfl) (RepL_one (fun c y hc => rep_one (s := s) hc) e2) (by omega) hfit
              obtain ⟨r1, _⟩ := RepL_cut hfl (n := n) (by omega) g7
              obtain ⟨_, r2⟩ := RepL_cut hfl (n := n + ys.length) c2 g7
              refine ⟨M, φ, ξ, _, _, .inl (exec hr), ?_, he, ⟨Fz.le_refl _, fun _ _ => rfl⟩, some ⟨g, 0, none⟩, xs.length, cap, h1, by omega, q3, some ⟨g, 0, none⟩, by simp, q4⟩
              refine hc.write g1 rfl rfl rfl (by simp) (fun k hk => setRow_other w g k _ (fun e => hk (by simp [e]))) ⟨hf, some ⟨g, 0, none⟩, cap, ?_, .inr ⟨g, _, g1, rfl, setRow_heap w g cc _ e _ g3, ?_, g5, ?_, ?_⟩⟩
              · rw [h1]; simp; omega
              · simp; omega
              · simp only [List.size_toArray, List.length_append, List.length_take, List.length_drop, Array.length_toList]
                omega
              · have all := RepL_app2 r1 (RepL_app2 e2 r2)
                have hal := RepL_len hfl all
                show RepL _ (List.take _ _) _
                have hl2 : (xs.take n ++ (ys ++ xs.drop (n + ys.length))).length = xs.length := by simp; omega
                rw [hl2]
                rw [hl2] at hal
                have hle : xs.length * s.size ≤ cc.toList.length := by
                  rw [show cc.toList.length = cap * s.size from (Array.length_toList).trans g6]; exact Nat.mul_le_mul_right _ g4
                have et : (cc.toList.take (n * i.size) ++ news ++ cc.toList.drop (n * i.size + news.length)).take (xs.length * s.size) = (cc.toList.take (xs.length * s.size)).take (n * s.size) ++ (news ++ (cc.toList.take (xs.length * s.size)).drop ((n + ys.length) * s.size)) := by
                  have hn1 : n * s.size ≤ xs.length * s.size := Nat.mul_le_mul_right _ (by omega)
                  rw [hsz, hnl, ← Nat.add_mul, List.take_take, Nat.min_eq_left hn1, List.append_assoc, List.take_append, List.take_append, List.drop_take]
                  have l1 : (cc.toList.take (n * s.size)).length = n * s.size := by rw [List.length_take]; omega
                  rw [l1, hnl, List.take_of_length_le (l := cc.toList.take (n * s.size)) (by rw [l1]; exact hn1)]
                  have l2 : ys.length * s.size ≤ xs.length * s.size - n * s.size := by
                    have := Nat.mul_le_mul_right s.size c2
                    rw [Nat.add_mul] at this
                    omega
                  rw [List.take_of_length_le (l := news) (by rw [hnl]; exact l2), Nat.add_mul, Nat.sub_sub]
                rw [et]
                exact all
        · cases hb
      · cases hb
    · cases hb
  · cases hb

end
end Go.Proofs.YtlhbekiplnmolaaDoor
