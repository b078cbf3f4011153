/- The machine's side, told once: more laws (regions' tails, a callee on the caller's memory, what else the caller knows, rows written). -/
import Derived.Test.YthapghhmeicbnaaDoorK9
set_option linter.unusedVariables false
set_option linter.unusedSimpArgs false
namespace Go.Proofs.YthapghhmeicbnaaDoor
open Go.RowKit

section
variable {P : Program} {fn : Func} {w0 : World} {k : List KI} {ρ : Env} {H : Hp} {R : Value → Hp → Prop} {ops : Array Oper} {i : Nat} {todo : List Nat} {d : Tmp}
theorem ro_storeFr {T t : TypeId} {j g off : Nat} {c c' : Array Value} {fr : Nat × Nat} {v : Value} {H' : Hp} {K : Env → Hp → Prop} (h : stepG fn.ntmps ops i ρ = some (none, uN (Instr.storeAt T (.pointer (some ⟨g, off, none⟩)) v)))
    (hn : ∀ w, (sizeOf T).run P w = .ok 1 w) (hvs : v.cells = #[v]) (h1 : v.oneCell' = true) (hH : H[j]? = some (.blk g (.cells c t fr))) (hs : off < c.size) (hf : off < fr.1) (hc : c.setIfInBounds off v = c') (hH' : H.set j (.blk g (.cells c' t fr)) = H')
    (hk : K ρ H') : RunOp P fn w0 ops i ρ H K := by
  refine ro_unit h fun w h4 => ?_
  have hm := h4.mem j _ hH
  have hg := hm.2
  have hcell : w.cell? ⟨g, off, none⟩ = some (c[off]'hs) := by simp [World.cell?, hg]
  have hfz : w.frozen? ⟨g, off, none⟩ = false := by simp [World.frozen?, hg]; omega
  have hset := blk_set hg off v
  have hst : (store ⟨g, off, none⟩ v).run P w = .ok () (w.setCell ⟨g, off, none⟩ v) := by
    cases v <;> first | (simp [Value.oneCell'] at h1; done) | simp [store, Sem.run, hcell, hfz]
  have hr : (Instr.storeAt T (.pointer (some ⟨g, off, none⟩)) v).run P w = .ok () (w.setCell ⟨g, off, none⟩ v) := by
    simp [Instr.storeAt, Instr.sureAddr, storeVar, hn, hvs, storeCells, add_zero_off, hst]
  refine ⟨_, H', uN_run hr, ?_, hk⟩
  subst hH' hc
  exact h4.write hH rfl rfl rfl rfl (by simp [World.setCell]) (fun b _ hb => Below.heap_setCell _ _ _ _ hb) ⟨hm.1, hset⟩ (fun b hb => .inl (by simpa [HI.foot] using hb.symm))
theorem setAll_get (l : List Value) : ∀ (c : Array Value) (off : Nat), off + l.length ≤ c.size → ∀ q, (setAll c off l)[q]? = if off ≤ q ∧ q < off + l.length then l[q - off]? else c[q]? := by
  induction l with
  | nil => intro c off _ q; simp [setAll]; omega
  | cons x l ih =>
    intro c off h q
    simp only [List.length_cons] at h
    rw [setAll, ih _ _ (by simp; omega)]
    by_cases h1 : off + 1 ≤ q ∧ q < off + 1 + l.length
    · rw [if_pos h1, if_pos (by simp; omega), show q - off = (q - (off + 1)) + 1 by omega, List.getElem?_cons_succ]
    · rw [if_neg h1]
      by_cases h2 : q = off
      · subst h2
        rw [if_pos (by simp)]
        simp [show q < c.size by omega]
      · rw [if_neg (by simp; omega), Array.getElem?_setIfInBounds_ne (fun e => h2 e.symm)]
theorem setAll_whole {c v : Array Value} (h : v.size = c.size) : setAll c 0 v.toList = v := by
  apply Array.ext_getElem?
  intro q
  rw [setAll_get _ _ _ (by rw [Array.length_toList]; omega)]
  split
  · simp
  · rename_i hq
    rw [Array.getElem?_eq_none (by rw [Array.length_toList] at hq; omega), Array.getElem?_eq_none (by rw [Array.length_toList] at hq; omega)]
theorem ro_storeW {T t : TypeId} {j g n : Nat} {c c' : Array Value} {v : Value} {H' : Hp} {K : Env → Hp → Prop} (h : stepG fn.ntmps ops i ρ = some (none, uN (Instr.storeAt T (.pointer (some ⟨g, 0, none⟩)) v)))
    (hn : ∀ w, (sizeOf T).run P w = .ok n w) (hvs : v.cells.size = n) (h1 : v.cells.toList.all Value.oneCell' = true) (hH : H[j]? = some (.blk g (.cells c t))) (hs : c.size = n) (hc : v.cells = c') (hH' : H.set j (.blk g (.cells c' t)) = H')
    (hk : K ρ H') : RunOp P fn w0 ops i ρ H K := by
  refine ro_store h hn hvs h1 hH (Nat.ble_eq_true_of_le (by omega)) ?_ hH' hk
  subst hc
  exact setAll_whole (by omega)
theorem ro_callH {f : FuncId} {l : List Value} {Q : Value → Hp → Prop} {K : Env → Hp → Prop} (h : stepG fn.ntmps ops i ρ = some (some d, callN (.func (.func f) #[] #[]) l))
    (hb : ∀ args w, (callFunc f args).run P w = .ok (.enter f args) w) (hc : FnH P f l.toArray w0 H Q)
    (hk : ∀ v H', Q v H' → K ((d, v) :: ρ) H') : RunOp P fn w0 ops i ρ H K := by
  intro Q' X hX a w h1 h2 h3 h4
  obtain ⟨o, ho, hw, hd, hlt, he⟩ := stepG_ok h h1
  unfold wpOp
  simp only [ho, hw, if_true]
  left
  simp only [Oper.wp, he, callN_run (hb _ w), Oper.upon_enter]
  rw [Array.append_empty]
  refine (hc w h4).mono ?_
  rintro e w' ⟨v, hh, rfl, hs, hq⟩
  simp only [hd]
  exact hX _ _ (hk v hh hq) _ _ (h1.put d v (by rw [h2]; exact hlt d rfl)) (by rw [put_size]; exact h2) (by rw [put_defers]; exact h3) hs
theorem hpsub_refl (H : Hp) : HpSub H (List.range H.length) H := by
  have := hpsub_from H []
  simpa using this
theorem hpsub_app : ∀ {X : Hp} {l : List Nat} {Y F : Hp}, HpSub X l Y → HpSub (X ++ F) (l ++ (List.range F.length).map (· + Y.length)) (Y ++ F)
  | [], [], Y, F, _ => by simpa using hpsub_from F Y
  | x :: X, j :: l, Y, F, h => by
    refine ⟨?_, hpsub_app h.2⟩
    have h1 := h.1
    obtain ⟨hj, _⟩ := List.getElem?_eq_some_iff.1 h1
    rw [List.getElem?_append_left hj]
    exact h1
  | [], _ :: _, _, _, h => h.elim
  | _ :: _, [], _, _, h => h.elim
theorem run_lessE {ρ' : Env} (h : Run P fn w0 k ρ' H R) (he : EnvSub ρ' ρ) : Run P fn w0 k ρ H R := run_less (List.range H.length) h he (hpsub_refl H) List.nodup_range
theorem run_lessF {ρ' : Env} {X Y F : Hp} (l : List Nat) (h : Run P fn w0 k ρ' (X ++ F) R) (he : EnvSub ρ' ρ) (hs : HpSub X l Y) (hl : l.Nodup) (hb : l.all (Nat.blt · Y.length) = true) : Run P fn w0 k ρ (Y ++ F) R := by
  refine run_less _ h he (hpsub_app hs) ?_
  rw [List.nodup_append]
  refine ⟨hl, List.pairwise_map.2 (List.nodup_range.imp fun hne e => hne (by omega)), fun a ha b hb' e => ?_⟩
  have h1 := List.all_eq_true.1 hb a ha
  rw [Nat.blt_eq] at h1
  obtain ⟨c, _, rfl⟩ := List.mem_map.1 hb'
  omega
theorem know_app {X F : Hp} {A : Option Addr} {xs : List Value} (h : Know w0 F A xs) : Know w0 (X ++ F) A xs := fun w s =>
  h w (s.pick ((List.range F.length).map (· + X.length)) (List.pairwise_map.2 (List.nodup_range.imp fun hne e => hne (by omega))) (hpsub_from F X).ok)
end
section
variable {P : Program} {fn : Func} {w0 : World} {k : List KI} {ρ : Env} {R : Value → Hp → Prop}
theorem run_retF {c : Code} {v : Value} {X Y F : Hp} (l : List Nat) (hc : Code.kind c = .ret) (hv : ∀ (a : Act) (w : World), EnvOk ρ a.tmps → Sat w0 (Y ++ F) w → (results fn a.tmps).run P w = .ok v w) (hs : HpSub X l Y) (hl : l.Nodup) (hb : l.all (Nat.blt · Y.length) = true) (h : R v (X ++ F)) : Run P fn w0 (.code c :: k) ρ (Y ++ F) R := by
  refine run_retS (l ++ (List.range F.length).map (· + Y.length)) hc hv (hpsub_app hs) ?_ h
  rw [List.nodup_append]
  refine ⟨hl, List.pairwise_map.2 (List.nodup_range.imp fun hne e => hne (by omega)), fun a ha b hb' e => ?_⟩
  have h1 := List.all_eq_true.1 hb a ha
  rw [Nat.blt_eq] at h1
  obtain ⟨c, _, rfl⟩ := List.mem_map.1 hb'
  omega
end
section
variable {P : Program} {fn : Func} {w0 : World} {k : List KI} {ρ : Env} {H : Hp} {R : Value → Hp → Prop} {ops : Array Oper}
theorem any_multi2 {fuel : Nat} {listed : Array Bool} (ρf : Nat → Nat → Env) (Hf : Nat → Nat → Hp) (h : AnyTo P fn w0 ops fuel listed ρ H (fun ρ2 H2 => ∃ a b, EnvSub (ρf a b) ρ2 ∧ ∃ l, HpSub (Hf a b) l H2 ∧ l.Nodup)) (hk : ∀ a b, Run P fn w0 k (ρf a b) (Hf a b) R) : RunAny P fn w0 ops fuel listed k ρ H R :=
  fun a w h1 h2 h3 h4 => h _ (fun ρ2 H2 hK a w g1 g2 g3 g4 => by
    obtain ⟨x, y, e1, l, e2, e3⟩ := hK
    exact run_less l (hk x y) e1 e2 e3 a w g1 g2 g3 g4) a w h1 h2 h3 h4
end
section
variable {P : Program} {fn : Func} {w0 : World} {k : List KI} {ρ : Env} {H : Hp} {R : Value → Hp → Prop} {ops : Array Oper} {i : Nat} {todo : List Nat} {d : Tmp} {x y : Operand}
theorem rd_notD {b r : Bool} (h : (!b) = r) : Rdo P w0 H (Op.unary .not (.bool b)) (.bool r) := h ▸ rd_not
theorem run_equalIn_bool (D : Nat) {t : TypeId} (ht : P.underlying t = some .bool) (a b : Bool) (w : World) : (Op.equalIn (D + 1) t (.bool a) (.bool b)).run P w = .ok (a == b) w := by
  simp [Op.equalIn, run_underlying ht]
theorem run_equal_bool {t : TypeId} (ht : P.underlying t = some .bool) (a b : Bool) (w : World) : (Op.equal t (.bool a) (.bool b)).run P w = .ok (a == b) w := run_equalIn_bool 9999 ht a b w
theorem rd_booleq {t : TypeId} {a b r : Bool} (ht : P.underlying t = some .bool) (h : (a == b) = r) : Rdo P w0 H (eqN .eql t x y (.bool a) (.bool b)) (.bool r) := by
  intro w _
  subst h
  simp [eqN, eqGuard, binOp, run_equal_bool ht]

end
end Go.Proofs.YthapghhmeicbnaaDoor
