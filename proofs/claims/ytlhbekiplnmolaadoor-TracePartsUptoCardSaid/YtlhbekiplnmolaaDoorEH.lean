/- The machine's side, told once: regions that draw their order: memory is made and written in one order, all else where it may be. -/
import Derived.Test.YtlhbekiplnmolaaDoorEF
import Derived.KernelRfl
set_option linter.unusedVariables false
set_option linter.unusedSimpArgs false
namespace Go.Proofs.YtlhbekiplnmolaaDoor
open Go.RowKit

def loudB (orc : List (Nat × Orc)) (ops : Array Oper) (i : Nat) : Bool := match ops[i]? with
  | some o => match o.op with
    | .box _ _ => true
    | .alloc _ => true
    | .store _ _ _ => true
    | .makeMap _ _ => true
    | .mapUpdate _ _ _ _ => true
    | .mapEntry _ _ _ => true
    | .entryStore _ _ _ _ => true
    | .buildSlice _ _ _ => true
    | .call ⟨.builtin .append, _, _⟩ => true
    | .call ⟨.builtin .clear, _, _⟩ => true
    | .call ⟨.value _, _, _⟩ => match look orc i with
      | some q => q.m.isSome
      | none => false
    | _ => false
  | none => false
def cntL (orc : List (Nat × Orc)) (ops : Array Oper) : Nat → Nat
  | 0 => 0
  | k + 1 => cntL orc ops k + (if loudB orc ops k then 1 else 0)

/-! ### What waits for what -/
def maskOf (l : List Nat) : List Edge → Nat
  | [] => 0
  | e :: r => if Region.binds .any e then 2 ^ e.on ||| l.getD e.on 0 ||| maskOf l r else maskOf l r
def maskAt (ops : Array Oper) (l : List Nat) (k : Nat) : Nat := match ops[k]? with
  | some o => maskOf l o.after.toList
  | none => 0
def masks (ops : Array Oper) : Nat → List Nat
  | 0 => []
  | k + 1 => masks ops k ++ [maskAt ops (masks ops k) k]
def bitB (ms : List Nat) (i j : Nat) : Bool := Nat.testBit (ms.getD i 0) j

theorem masks_len {ops : Array Oper} : ∀ {k : Nat}, (masks ops k).length = k
  | 0 => rfl
  | k + 1 => by simp [masks, masks_len]
theorem masks_get {ops : Array Oper} {i : Nat} : ∀ {k : Nat}, i < k → (masks ops k).getD i 0 = maskAt ops (masks ops i) i
  | k + 1, h => by
    simp only [masks]
    rcases Nat.lt_or_ge i k with h1 | h1
    · rw [← masks_get h1, List.getD_eq_getElem?_getD, List.getD_eq_getElem?_getD, List.getElem?_append_left (by rw [masks_len]; exact h1)]
    · obtain rfl : i = k := by omega
      rw [List.getD_eq_getElem?_getD, List.getElem?_append_right (by rw [masks_len]; exact Nat.le_refl _), masks_len]
      simp
theorem maskOf_bit {l : List Nat} {j : Nat} : ∀ {r : List Edge}, (maskOf l r).testBit j = true → ∃ e ∈ r, Region.binds .any e = true ∧ (j = e.on ∨ (l.getD e.on 0).testBit j = true)
  | [], h => by simp [maskOf] at h
  | e :: r, h => by
    simp only [maskOf] at h
    split at h
    · rename_i hb
      simp only [Nat.testBit_or, Bool.or_eq_true, Nat.testBit_two_pow, decide_eq_true_eq] at h
      rcases h with (h | h) | h
      · exact ⟨e, List.mem_cons_self .., hb, .inl h.symm⟩
      · exact ⟨e, List.mem_cons_self .., hb, .inr h⟩
      · obtain ⟨e', h1, h2⟩ := maskOf_bit h
        exact ⟨e', List.mem_cons_of_mem _ h1, h2⟩
    · obtain ⟨e', h1, h2⟩ := maskOf_bit h
      exact ⟨e', List.mem_cons_of_mem _ h1, h2⟩
theorem mask_in {ops : Array Oper} {ord : List Nat} (hc : ∀ i ∈ ord, ∀ j, depB ops i j = true → j ∈ ord) {n j : Nat} : ∀ {i : Nat}, i < n → (∀ x, depB ops i x = true → x ∈ ord) → bitB (masks ops n) i j = true → j ∈ ord := by
  intro i
  induction i using Nat.strongRecOn with
  | _ i ih =>
    intro hi hd h
    unfold bitB at h
    rw [masks_get hi] at h
    unfold maskAt at h
    split at h
    · rename_i o ho
      obtain ⟨e, h1, h2, h3⟩ := maskOf_bit h
      have hdep : depB ops i e.on = true := by
        unfold depB
        simp only [ho]
        exact Array.any_eq_true'.2 ⟨e, by simpa using h1, by simp [h2]⟩
      have hon := hd _ hdep
      rcases h3 with rfl | h3
      · exact hon
      · rcases Nat.lt_or_ge e.on i with hlt | hge
        · refine ih e.on hlt (by omega) (hc _ hon) ?_
          unfold bitB
          rw [masks_get (by omega), ← masks_get hlt]
          exact h3
        · rw [List.getD_eq_getElem?_getD, List.getElem?_eq_none (by rw [masks_len]; exact hge)] at h3
          simp at h3
    · simp at h

/-! ### What all comes to -/
/-- Older slots that an operation may read. -/
def oldEnv (ops : Array Oper) (ms : List Nat) (i : Nat) (ρ : AEnv) : AEnv := ρ.filter fun x => (List.range ops.size).all fun j => match dstOf ops j with
  | some d => !Nat.beq d x.1 || bitB ms j i
  | none => true
def opEnv (ops : Array Oper) (ms : List Nat) (ρ : AEnv) (res : List AVal) (i : Nat) : AEnv := resEnv ops i res 0 ++ oldEnv ops ms i ρ
def loudAt (P : Program) (n0 : Nat) (orc : List (Nat × Orc)) (dec : List (Nat × Bool)) (L0 : Nat) (ops : Array Oper) (ms : List Nat) (ρ : AEnv) (H : AStore) (res : List AVal) (i : Nat) : Option (AVal × AStore × List Prop) :=
  match ops[i]? with
  | none => none
  | some o => match gdE ops o (opEnv ops ms ρ res i) with
    | none => none
    | some false => some (.undef, H, [])
    | some true => match stepE P n0 orc i (opEnv ops ms ρ res i) H (L0 + 20 * i) o with
      | some (β, H', C) => some ((dcd dec i β).1, H', C ++ (dcd dec i β).2)
      | none => none
def quietAt (P : Program) (orc : List (Nat × Orc)) (dec : List (Nat × Bool)) (ops : Array Oper) (ms : List Nat) (ρ : AEnv) (H : AStore) (res : List AVal) (i : Nat) : PR :=
  match headOne P orc dec ops (oldEnv ops ms i ρ) [] res i with
  | some r => some r
  | none => headOne P orc dec ops (oldEnv ops ms i ρ) H res i
def mainE (P : Program) (n0 : Nat) (orc : List (Nat × Orc)) (dec : List (Nat × Bool)) (L0 : Nat) (ops : Array Oper) (ms : List Nat) (ρ : AEnv) (H : AStore) : Nat → Option (List AVal × List AStore × List Prop)
  | 0 => some ([], [H], [])
  | k + 1 => match mainE P n0 orc dec L0 ops ms ρ H k with
    | none => none
    | some (res, Hs, C) => match Hs[cntL orc ops k]? with
      | none => none
      | some H1 => if loudB orc ops k then match loudAt P n0 orc dec L0 ops ms ρ H1 res k with
          | some (β, H2, C') => some (res ++ [β], Hs ++ [H2], C ++ C')
          | none => none
        else match quietAt P orc dec ops ms ρ H1 res k with
          | some (β, C') => some (res ++ [β], Hs, C ++ C')
          | none => none
/-- May an operation run when so many have written? -/
def mayB (orc : List (Nat × Orc)) (ops : Array Oper) (ms : List Nat) (i k : Nat) : Bool := (List.range ops.size).all fun j => !loudB orc ops j || ((!(Nat.blt (cntL orc ops j) k) || !bitB ms j i) && (!bitB ms i j || Nat.blt (cntL orc ops j) k))
def extraE (P : Program) (orc : List (Nat × Orc)) (dec : List (Nat × Bool)) (ops : Array Oper) (ms : List Nat) (ρ : AEnv) (Hs : List AStore) (res : List AVal) : List (Nat × Nat) → Option (List Prop)
  | [] => some []
  | (i, k) :: l => match extraE P orc dec ops ms ρ Hs res l with
    | none => none
    | some C => if loudB orc ops i || Nat.beq k (cntL orc ops i) || !mayB orc ops ms i k then some C else match headOne P orc dec ops (oldEnv ops ms i ρ) [] res i with
      | some _ => some C
      | none => match Hs[k]? with
        | none => none
        | some H => match headOne P orc dec ops (oldEnv ops ms i ρ) H res i, res[i]? with
          | some (β', C'), some β => some ((β' = β) :: (C' ++ C))
          | _, _ => none
def plan2 (m : Nat) (orc : List (Nat × Orc)) (L0 nt : Nat) (ops : Array Oper) (ms : List Nat) (ρ : AEnv) (res : List AVal) : Bool :=
  ltB L0 (envLabs ρ) && (List.range ops.size).all fun i =>
    (match ops[i]? with | some o => o.after.all (fun e => !Region.binds .any e || Nat.blt e.on i) | none => true) &&
    (match dstOf ops i with
      | some d => Nat.blt d nt && (List.range i).all (fun j => match dstOf ops j with | some d' => !Nat.beq d' d | none => true)
      | none => true) &&
    (!loudB orc ops i || Nat.blt (cntL orc ops i) m || ((List.range i).all (fun j => !loudB orc ops j || bitB ms i j) && (List.range ops.size).all (fun j => Nat.beq j i || bitB ms j i || ltB (L0 + 20 * i) (match res[j]? with | some α => α.labs | none => []))))
def pairs (n k : Nat) : List (Nat × Nat) := (List.range n).flatMap fun i => (List.range (k + 1)).map fun q => (i, q)
def evG (P : Program) (n0 nt : Nat) (orc : List (Nat × Orc)) (dec : List (Nat × Bool)) (L0 : Nat) (ls lh : List Nat) (ops : Array Oper) (ρ : AEnv) (H : AStore) : Option (AEnv × AStore × List Prop) :=
  match mainE P n0 orc dec L0 ops (masks ops ops.size) ρ H ops.size with
  | none => none
  | some (res, Hs, C1) => if nodupB lh && plan2 0 orc L0 nt ops (masks ops ops.size) ρ res then match extraE P orc dec ops (masks ops ops.size) ρ Hs res (pairs ops.size (cntL orc ops ops.size)) with
    | none => none
    | some C2 => match Hs[cntL orc ops ops.size]? with
      | none => none
      | some Hn => match trimE ls (allEnv ops res 0 ++ keepB ops ops.size ρ), trimH lh Hn with
        | some ρ', some H' => some (ρ', H', C1 ++ C2)
        | _, _ => none
    else none

section
variable {P : Program} {fn : Func} {n0 : Nat} {b : Base n0} {R : Exit → Act → World → Prop} {k : List KI} {ρ : AEnv} {H : AStore} {ops : Array Oper} {orc : List (Nat × Orc)} {dec : List (Nat × Bool)}

theorem cntL_mono : ∀ {i j : Nat}, i ≤ j → cntL orc ops i ≤ cntL orc ops j
  | i, 0, h => by obtain rfl : i = 0 := by omega
                  exact Nat.le_refl _
  | i, j + 1, h => by
    rcases Nat.eq_or_lt_of_le h with rfl | h
    · exact Nat.le_refl _
    · have := cntL_mono (i := i) (j := j) (by omega)
      simp only [cntL]
      omega
theorem cntL_lt {i j : Nat} (h : i < j) (hl : loudB orc ops i = true) : cntL orc ops i < cntL orc ops j := by
  have := cntL_mono (orc := orc) (ops := ops) (i := i + 1) (j := j) h
  simp only [cntL, hl, if_true] at this
  omega
theorem cntL_inj {i j : Nat} (hi : loudB orc ops i = true) (hj : loudB orc ops j = true) (h : cntL orc ops i = cntL orc ops j) : i = j := by
  rcases Nat.lt_trichotomy i j with h1 | h1 | h1
  · have := cntL_lt (j := j) h1 hi; omega
  · exact h1
  · have := cntL_lt (j := i) h1 hj; omega
theorem cntL_ex : ∀ {i c : Nat}, c < cntL orc ops i → ∃ j, j < i ∧ loudB orc ops j = true ∧ cntL orc ops j = c
  | i + 1, c, h => by
    simp only [cntL] at h
    cases hl : loudB orc ops i with
    | false =>
      rw [hl] at h
      obtain ⟨j, h1, h2⟩ := cntL_ex (i := i) (c := c) (by simpa using h)
      exact ⟨j, by omega, h2⟩
    | true =>
      rw [hl] at h
      simp only [if_true] at h
      rcases Nat.lt_or_ge c (cntL orc ops i) with h1 | h1
      · obtain ⟨j, h2, h3⟩ := cntL_ex h1
        exact ⟨j, by omega, h3⟩
      · exact ⟨i, by omega, hl, by omega⟩

theorem resEnv_pre {i : Nat} {l m : List AVal} (hback : ∀ i j, depB ops i j = true → j < i) (hi : i ≤ l.length) : resEnv ops i (l ++ m) 0 = resEnv ops i l 0 := by
  refine resEnv_app fun x hx => ?_
  cases hd : depB ops i x with
  | false => rfl
  | true => have := hback i x hd; omega

theorem headOne_pre {ρ1 : AEnv} {i : Nat} {l m : List AVal} (hback : ∀ i j, depB ops i j = true → j < i) (hi : i ≤ l.length) : headOne P orc dec ops ρ1 H (l ++ m) i = headOne P orc dec ops ρ1 H l i := by
  simp only [headOne, resEnv_pre hback hi]
theorem quietAt_pre {ms : List Nat} {i : Nat} {l m : List AVal} (hback : ∀ i j, depB ops i j = true → j < i) (hi : i ≤ l.length) : quietAt P orc dec ops ms ρ H (l ++ m) i = quietAt P orc dec ops ms ρ H l i := by
  simp only [quietAt, headOne_pre hback hi]
theorem loudAt_pre {ms : List Nat} {L0 i : Nat} {l m : List AVal} (hback : ∀ i j, depB ops i j = true → j < i) (hi : i ≤ l.length) : loudAt P n0 orc dec L0 ops ms ρ H (l ++ m) i = loudAt P n0 orc dec L0 ops ms ρ H l i := by
  simp only [loudAt, opEnv, resEnv_pre hback hi]

theorem main_ok {L0 : Nat} {ms : List Nat} (hback : ∀ i j, depB ops i j = true → j < i) : ∀ {n : Nat} {res : List AVal} {Hs : List AStore} {C : List Prop}, mainE P n0 orc dec L0 ops ms ρ H n = some (res, Hs, C) → AllP C →
    res.length = n ∧ Hs.length = cntL orc ops n + 1 ∧ Hs[0]? = some H ∧
    (∀ i, i < n → loudB orc ops i = true → ∃ β H1 H2 C', res[i]? = some β ∧ Hs[cntL orc ops i]? = some H1 ∧ Hs[cntL orc ops i + 1]? = some H2 ∧ loudAt P n0 orc dec L0 ops ms ρ H1 res i = some (β, H2, C') ∧ AllP C') ∧
    (∀ i, i < n → loudB orc ops i = false → ∃ β H1 C', res[i]? = some β ∧ Hs[cntL orc ops i]? = some H1 ∧ quietAt P orc dec ops ms ρ H1 res i = some (β, C') ∧ AllP C')
  | 0, res, Hs, C, h, _ => by
    simp only [mainE, Option.some.injEq, Prod.mk.injEq] at h
    obtain ⟨rfl, rfl, rfl⟩ := h
    exact ⟨rfl, rfl, rfl, fun i hi => by omega, fun i hi => by omega⟩
  | n + 1, res, Hs, C, h, hC => by
    simp only [mainE] at h
    split at h
    · cases h
    · rename_i res0 Hs0 C0 h0
      split at h
      · cases h
      · rename_i H1 hH1
        have pre : ∀ {β : AVal} {C' : List Prop}, AllP (C0 ++ C') → ∀ {Hs' : List AStore}, (∀ (q : Nat) (x : AStore), Hs0[q]? = some x → Hs'[q]? = some x) →
            res0.length = n ∧ Hs0.length = cntL orc ops n + 1 ∧ Hs'[0]? = some H ∧
            (∀ i, i < n → loudB orc ops i = true → ∃ β' H1 H2 C', (res0 ++ [β])[i]? = some β' ∧ Hs'[cntL orc ops i]? = some H1 ∧ Hs'[cntL orc ops i + 1]? = some H2 ∧ loudAt P n0 orc dec L0 ops ms ρ H1 (res0 ++ [β]) i = some (β', H2, C') ∧ AllP C') ∧
            (∀ i, i < n → loudB orc ops i = false → ∃ β' H1 C', (res0 ++ [β])[i]? = some β' ∧ Hs'[cntL orc ops i]? = some H1 ∧ quietAt P orc dec ops ms ρ H1 (res0 ++ [β]) i = some (β', C') ∧ AllP C') := by
          intro β C' hC Hs' hHs
          obtain ⟨g1, g2, g3, g4, g5⟩ := main_ok hback h0 (AllP.app hC).1
          refine ⟨g1, g2, hHs _ _ g3, fun i hi hl => ?_, fun i hi hl => ?_⟩
          · obtain ⟨β', H1, H2, C'', k1, k2, k3, k4, k5⟩ := g4 i hi hl
            exact ⟨β', H1, H2, C'', by rw [List.getElem?_append_left (by omega)]; exact k1, hHs _ _ k2, hHs _ _ k3, by rw [loudAt_pre hback (by omega)]; exact k4, k5⟩
          · obtain ⟨β', H1, C'', k1, k2, k3, k4⟩ := g5 i hi hl
            exact ⟨β', H1, C'', by rw [List.getElem?_append_left (by omega)]; exact k1, hHs _ _ k2, by rw [quietAt_pre hback (by omega)]; exact k3, k4⟩
        split at h
        · rename_i hl
          split at h
          · rename_i β H2 C' h1
            simp only [Option.some.injEq, Prod.mk.injEq] at h
            obtain ⟨rfl, rfl, rfl⟩ := h
            obtain ⟨g1, g2, g3, g4, g5⟩ := pre (β := β) hC (Hs' := Hs0 ++ [H2]) fun q x hq => by
              rw [List.getElem?_append_left (List.getElem?_eq_some_iff.1 hq).1]; exact hq
            refine ⟨by simp [g1], by simp [g2, cntL, hl], g3, fun i hi hli => ?_, fun i hi hli => ?_⟩
            · rcases Nat.lt_or_ge i n with h2 | h2
              · exact g4 i h2 hli
              · obtain rfl : i = n := by omega
                refine ⟨β, H1, H2, C', by rw [← g1]; simp, by rw [List.getElem?_append_left (by omega)]; exact hH1, by rw [← g2]; simp, by rw [loudAt_pre hback (by omega)]; exact h1, (AllP.app hC).2⟩
            · rcases Nat.lt_or_ge i n with h2 | h2
              · exact g5 i h2 hli
              · obtain rfl : i = n := by omega
                rw [hl] at hli
                cases hli
          · cases h
        · rename_i hl
          have hl : loudB orc ops n = false := by simpa using hl
          split at h
          · rename_i β C' h1
            simp only [Option.some.injEq, Prod.mk.injEq] at h
            obtain ⟨rfl, rfl, rfl⟩ := h
            obtain ⟨g1, g2, g3, g4, g5⟩ := pre (β := β) hC (Hs' := Hs0) fun q x hq => hq
            refine ⟨by simp [g1], by simp [g2, cntL, hl], g3, fun i hi hli => ?_, fun i hi hli => ?_⟩
            · rcases Nat.lt_or_ge i n with h2 | h2
              · exact g4 i h2 hli
              · obtain rfl : i = n := by omega
                rw [hl] at hli
                cases hli
            · rcases Nat.lt_or_ge i n with h2 | h2
              · exact g5 i h2 hli
              · obtain rfl : i = n := by omega
                exact ⟨β, H1, C', by rw [← g1]; simp, hH1, by rw [quietAt_pre hback (by omega)]; exact h1, (AllP.app hC).2⟩
          · cases h

theorem extra_ok {ms : List Nat} {Hs : List AStore} {res : List AVal} : ∀ {l : List (Nat × Nat)} {C : List Prop}, extraE P orc dec ops ms ρ Hs res l = some C → AllP C → ∀ i k, (i, k) ∈ l → loudB orc ops i = false → k ≠ cntL orc ops i → mayB orc ops ms i k = true →
    (∃ r, headOne P orc dec ops (oldEnv ops ms i ρ) [] res i = some r) ∨ ∃ H β C', Hs[k]? = some H ∧ res[i]? = some β ∧ headOne P orc dec ops (oldEnv ops ms i ρ) H res i = some (β, C') ∧ AllP C'
  | [], C, h, _, i, k, hm, _, _, _ => by cases hm
  | (j, q) :: l, C, h, hC, i, k, hm, hl, hk, hmay => by
    simp only [extraE] at h
    split at h
    · cases h
    · rename_i C0 h0
      split at h
      · rename_i hcond
        simp only [Option.some.injEq] at h
        subst h
        rcases List.mem_cons.1 hm with e | hm
        · simp only [Prod.mk.injEq] at e
          obtain ⟨rfl, rfl⟩ := e
          simp only [Bool.or_eq_true, Bool.not_eq_true', hl, hmay] at hcond
          rcases hcond with (h1 | h1) | h1
          · cases h1
          · exact absurd (Nat.eq_of_beq_eq_true h1) hk
          · cases h1
        · exact extra_ok h0 hC i k hm hl hk hmay
      · split at h
        · rename_i r hr
          simp only [Option.some.injEq] at h
          subst h
          rcases List.mem_cons.1 hm with e | hm
          · simp only [Prod.mk.injEq] at e
            obtain ⟨rfl, rfl⟩ := e
            exact .inl ⟨r, hr⟩
          · exact extra_ok h0 hC i k hm hl hk hmay
        · split at h
          · cases h
          · rename_i H1 hH
            split at h
            · rename_i β' C' β h1 h2
              simp only [Option.some.injEq] at h
              subst h
              obtain ⟨e1, c1⟩ := hC
              obtain ⟨c2, c3⟩ := AllP.app c1
              rcases List.mem_cons.1 hm with e | hm
              · simp only [Prod.mk.injEq] at e
                obtain ⟨rfl, rfl⟩ := e
                subst e1
                exact .inr ⟨H1, β', C', hH, h2, h1, c2⟩
              · exact extra_ok h0 c3 i k hm hl hk hmay
            · cases h

/-! ### What asks nothing of memory -/
theorem rslv_free : ∀ {s : Sh} {x : s.ty} {y : TV}, rslv [] s x = some y → rslv H s x = some y := by
  intro s
  induction s with
  | ref => intro x y h; simp [rslv, look] at h
  | oref => intro x y h; exact h
  | prod a b iha ihb =>
    intro x y h
    simp only [rslv] at h ⊢
    split
    · rename_i hp; rw [if_pos hp] at h; exact h
    · rename_i hp
      rw [if_neg hp] at h
      split at h
      · rename_i y1 z1 h1 h2
        rw [iha h1, ihb h2]
        exact h
      · cases h
  | st s ih =>
    intro x y h
    simp only [rslv] at h ⊢
    split at h
    · rename_i y1 h1
      rw [ih h1]
      exact h
    · cases h
  | _ => intro x y h; exact h
theorem lendA_free {α β : AVal} {z : Bool} (h : lendA [] α = some (β, z)) : lendA H α = some (β, z) := by
  cases α with
  | v s x =>
    simp only [lendA] at h ⊢
    split
    · rename_i hp; rw [if_pos hp] at h; exact h
    · rename_i hp
      rw [if_neg hp] at h
      split at h
      · rename_i y hy
        rw [rslv_free hy]
        exact h
      · cases h
  | _ => simp [lendA, look] at h ⊢ <;> exact h
theorem lendL_free : ∀ {l l' : List AVal} {z : Bool}, lendL [] l = some (l', z) → lendL H l = some (l', z)
  | [], l', z, h => h
  | α :: l, l', z, h => by
    simp only [lendL] at h ⊢
    split at h
    · rename_i β z1 r z2 h1 h2
      rw [lendA_free h1, lendL_free h2]
      exact h
    · cases h
theorem argA_free {ps : PSh} {α β : AVal} {z : Bool} {C : List Prop} (h : argA P [] ps α = some (β, z, C)) : argA P H ps α = some (β, z, C) := by
  cases ps <;> cases α <;> simp only [argA] at h ⊢ <;> (split at h <;> first | (rename_i hl; simp only [lendA_free hl]; exact h) | (rename_i hl; simp only [lendL_free hl]; exact h) | cases h)
theorem argL_free : ∀ {ps : List PSh} {l l' : List AVal} {z : Bool} {C : List Prop}, argL P [] ps l = some (l', z, C) → argL P H ps l = some (l', z, C)
  | [], [], _, _, _, h => h
  | ps :: q, α :: l, l', z, C, h => by
    simp only [argL] at h ⊢
    split at h
    · rename_i β z1 C1 r z2 C2 h1 h2
      rw [argA_free h1, argL_free h2]
      exact h
    · cases h
  | [], _ :: _, _, _, _, h => by simp [argL] at h
  | _ :: _, [], _, _, _, h => by simp [argL] at h
theorem callA_free {l : List AVal} {q : Orc} {α : AVal} {r : AVal × List Prop} (h : callA P [] l q α = some r) : callA P H l q α = some r := by
  unfold callA at h ⊢
  split at h
  · split at h
    · rename_i l' z C ha
      simp only [argL_free ha]
      exact h
    · cases h
  · exact h
  · cases h
theorem headOne_free {ρ1 : AEnv} {M : Fz} {φ : Nat → Value} {ξ : Nat → Option Nat} {w : World} {a : Act} {res : List AVal} {i : Nat} {β : AVal} {C : List Prop} (hc : Core P b M φ ξ H w) (he : EnvR P M φ (resEnv ops i res 0 ++ ρ1) a.tmps) (h : headOne P orc dec ops ρ1 [] res i = some (β, C)) (hC : AllP C) :
    ∃ o, ops[i]? = some o ∧ ((Region.wanted o (yielded ops a.tmps) = false ∧ β = .undef) ∨ (Region.wanted o (yielded ops a.tmps) = true ∧ Yld P o a w fun v w' => ∃ M', Core P b M' φ ξ H w' ∧ M.le M' ∧ RelV P M' φ β v)) := by
  unfold headOne at h
  split at h
  · cases h
  · rename_i o ho
    refine ⟨o, ho, ?_⟩
    split at h
    · cases h
    · rename_i hg
      simp only [Option.some.injEq, Prod.mk.injEq] at h
      exact .inl ⟨gdE_ok he hg, h.1.symm⟩
    · rename_i hg
      right
      refine ⟨gdE_ok he hg, ?_⟩
      obtain ⟨dst, op, ty, pos, after, guard⟩ := o
      have pure : (match pv P (resEnv ops i res 0 ++ ρ1) [] ty op with | some (β, C) => some ((dcd dec i β).1, C ++ (dcd dec i β).2) | none => none) = some (β, C) → Yld P ⟨dst, op, ty, pos, after, guard⟩ a w fun v w' => ∃ M', Core P b M' φ ξ H w' ∧ M.le M' ∧ RelV P M' φ β v := by
        intro h
        split at h
        · rename_i γ C' hp
          simp only [Option.some.injEq, Prod.mk.injEq] at h
          obtain ⟨rfl, rfl⟩ := h
          obtain ⟨c1, c2⟩ := AllP.app hC
          obtain ⟨v, h1, h2⟩ := pv_ok (o := ⟨dst, op, ty, pos, after, guard⟩) (hc.sub (List.nil_sublist _)) he hp c1
          exact .inl ⟨v, w, h1, M, hc, Fz.le_refl _, dcd_ok h2 c2⟩
        · cases h
      cases op with
      | call c =>
        obtain ⟨callee, xs, ts⟩ := c
        cases callee with
        | value fx =>
          simp only at h
          split at h
          · rename_i q hq
            split at h
            · rename_i α l hα hl
              split at h
              · rename_i hn
                split at h
                · rename_i γ C' hca
                  simp only [Option.some.injEq, Prod.mk.injEq] at h
                  obtain ⟨rfl, rfl⟩ := h
                  obtain ⟨c1, c2⟩ := AllP.app hC
                  have := does_callM (ts := ts) (ty := ty) (dst := dst) (pos := pos) (after := after) (guard := guard) hα hl (Nat.eq_of_beq_eq_true hn) (callA_free hca) c1 M φ ξ w a hc he
                  rcases this with ⟨v, w', h1, M', h2, h3, h4⟩ | ⟨w', h1, M', h2, h3, h4⟩ | ⟨f, args, h1, h2⟩
                  · exact .inl ⟨v, w', h1, M', h2, h3, dcd_ok h4 c2⟩
                  · exact .inr (.inl ⟨w', h1, M', h2, h3, dcd_ok h4 c2⟩)
                  · refine .inr (.inr ⟨f, args, h1, h2.mono ?_⟩)
                    rintro e w' ⟨v, rfl, M', h2, h3, h4⟩
                    exact ⟨v, rfl, M', h2, h3, dcd_ok h4 c2⟩
                · cases h
              · cases h
            · cases h
          · cases h
        | _ => exact pure h
      | _ => exact pure h

structure Plan2 (m : Nat) (orc : List (Nat × Orc)) (L0 nt : Nat) (ops : Array Oper) (ms : List Nat) (ρ : AEnv) (res : List AVal) : Prop where
  old : ∀ l ∈ envLabs ρ, l < L0
  back : ∀ i j, depB ops i j = true → j < i
  dlt : ∀ i d, dstOf ops i = some d → d < nt
  dd : ∀ i j d, j < i → dstOf ops i = some d → dstOf ops j ≠ some d
  chain : ∀ i j, i < ops.size → j < i → m ≤ cntL orc ops i → loudB orc ops i = true → loudB orc ops j = true → bitB ms i j = true
  labs : ∀ i j α, i < ops.size → j < ops.size → m ≤ cntL orc ops i → loudB orc ops i = true → res[j]? = some α → j = i ∨ bitB ms j i = true ∨ ∀ l ∈ α.labs, l < L0 + 20 * i

theorem back_ok (h : (List.range ops.size).all (fun i => match ops[i]? with | some o => o.after.all (fun e => !Region.binds .any e || Nat.blt e.on i) | none => true) = true) : ∀ i j, depB ops i j = true → j < i := by
  simp only [List.all_eq_true, List.mem_range] at h
  intro i j hd
  obtain ⟨o, ho, e, he, hb, rfl⟩ := depB_spec hd
  have := h i (Array.getElem?_eq_some_iff.1 ho).1
  rw [ho] at this
  have := Array.all_eq_true_iff_forall_mem.1 this e he
  simp [hb] at this
  simpa [Nat.blt_eq] using this
theorem plan2_ok {m L0 nt : Nat} {ms : List Nat} {res : List AVal} (h : plan2 m orc L0 nt ops ms ρ res = true) : Plan2 m orc L0 nt ops ms ρ res := by
  simp only [plan2, Bool.and_eq_true] at h
  obtain ⟨h0, h⟩ := h
  simp only [List.all_eq_true, List.mem_range, Bool.and_eq_true] at h
  have lt : ∀ {i d}, dstOf ops i = some d → i < ops.size := fun {i d} hd => by
    unfold dstOf at hd
    split at hd
    · rename_i o ho; exact (Array.getElem?_eq_some_iff.1 ho).1
    · cases hd
  refine ⟨ltB_mem h0, back_ok ?_, fun i d hd => ?_, fun i j d hj hd hd' => ?_, fun i j hi hj hm hl hl' => ?_, fun i j α hi hj hm hl hα => ?_⟩
  · simp only [List.all_eq_true, List.mem_range]
    exact fun i hi => (h i hi).1.1
  · have := (h i (lt hd)).1.2
    rw [hd] at this
    simp only [Bool.and_eq_true] at this
    simpa [Nat.blt_eq] using this.1
  · have := (h i (lt hd)).1.2
    rw [hd] at this
    simp only [Bool.and_eq_true, List.all_eq_true, List.mem_range] at this
    have := this.2 j hj
    rw [hd'] at this
    simp at this
  · have := (h i hi).2
    have hb : Nat.blt (cntL orc ops i) m = false := by rw [Bool.eq_false_iff]; intro h; rw [Nat.blt_eq] at h; omega
    simp only [hl, hb, Bool.not_true, Bool.false_or, Bool.and_eq_true, List.all_eq_true, List.mem_range] at this
    have := this.1 j hj
    simpa [hl'] using this
  · have := (h i hi).2
    have hb : Nat.blt (cntL orc ops i) m = false := by rw [Bool.eq_false_iff]; intro h; rw [Nat.blt_eq] at h; omega
    simp only [hl, hb, Bool.not_true, Bool.false_or, Bool.and_eq_true, List.all_eq_true, List.mem_range] at this
    have := this.2 j hj
    rw [hα] at this
    simp only [Bool.or_eq_true] at this
    rcases this with (h1 | h1) | h1
    · exact .inl (Nat.eq_of_beq_eq_true h1)
    · exact .inr (.inl h1)
    · exact .inr (.inr (ltB_mem h1))

structure Inv2 (P : Program) (fn : Func) {n0 : Nat} (b : Base n0) (orc : List (Nat × Orc)) (ops : Array Oper) (ρ : AEnv) (Hs : List AStore) (res : List AVal) (listed : Array Bool) (ord : List Nat) (kk : Nat) (a : Act) (w : World) : Prop where
  sz : listed.size = ops.size
  nd : ord.Nodup
  mem : ∀ i, i ∈ ord ↔ (i < ops.size ∧ listed.getD i false = true)
  closed : ∀ i ∈ ord, ∀ j, depB ops i j = true → j ∈ ord
  ld : ∀ j, j < ops.size → loudB orc ops j = true → (j ∈ ord ↔ cntL orc ops j < kk)
  tm : a.tmps.size = fn.ntmps
  df : a.defers = []
  st : ∃ M φ ξ Hk, Hs[kk]? = some Hk ∧ Core P b M φ ξ Hk w ∧ (∀ t α, look ρ t = some α → (∀ j ∈ ord, dstOf ops j ≠ some t) → ∃ v, a.tmps[t]? = some v ∧ RelV P M φ α v) ∧ ∀ i ∈ ord, ∀ d α, dstOf ops i = some d → res[i]? = some α → ∃ v, a.tmps[d]? = some v ∧ RelV P M φ α v

theorem look_old {ms : List Nat} {i t : Nat} {α : AVal} : ∀ {ρ : AEnv}, look (oldEnv ops ms i ρ) t = some α → look ρ t = some α ∧ ∀ j, j < ops.size → dstOf ops j = some t → bitB ms j i = true
  | [], h => by simp [oldEnv, look] at h
  | (s, β) :: ρ, h => by
    have hp := (List.mem_filter.1 (look_mem h)).2
    simp only [List.all_eq_true, List.mem_range] at hp
    refine ⟨?_, fun j hj hd => by have := hp j hj; rw [hd] at this; simpa using this⟩
    unfold oldEnv at h
    simp only [List.filter_cons] at h
    split at h
    · simp only [look] at h ⊢
      split at h
      · rename_i e; rw [if_pos e]; exact h
      · rename_i e; rw [if_neg e]; exact (look_old h).1
    · rename_i hk
      simp only [look]
      split
      · rename_i e
        have e := Nat.eq_of_beq_eq_true e
        subst e
        exfalso
        exact hk (by simpa using (List.mem_filter.1 (look_mem h)).2)
      · exact (look_old h).1

theorem all_any {m L0 nt : Nat} {res : List AVal} {Hs : List AStore} (hnt : nt = fn.ntmps) (hlen : res.length = ops.size) (ok : Plan2 m orc L0 nt ops (masks ops ops.size) ρ res)
    (hl : ∀ i, i < ops.size → loudB orc ops i = true → ∃ β H1 H2 C', res[i]? = some β ∧ Hs[cntL orc ops i]? = some H1 ∧ Hs[cntL orc ops i + 1]? = some H2 ∧ loudAt P n0 orc dec L0 ops (masks ops ops.size) ρ H1 res i = some (β, H2, C') ∧ AllP C')
    (hq : ∀ i, i < ops.size → loudB orc ops i = false → ∀ k Hk, k ≤ cntL orc ops ops.size → Hs[k]? = some Hk → mayB orc ops (masks ops ops.size) i k = true → ∃ β C', res[i]? = some β ∧ AllP C' ∧ (headOne P orc dec ops (oldEnv ops (masks ops ops.size) i ρ) [] res i = some (β, C') ∨ headOne P orc dec ops (oldEnv ops (masks ops ops.size) i ρ) Hk res i = some (β, C')))
    {Hn : AStore} (hHn : Hs[cntL orc ops ops.size]? = some Hn) (fin : ∀ a w, St P b (allEnv ops res 0 ++ keepB ops ops.size ρ) Hn a.tmps w → a.tmps.size = fn.ntmps → a.defers = [] → kwp P R k .normal a w) :
    ∀ (fuel : Nat) (listed : Array Bool) (ord : List Nat) (kk : Nat) (a : Act) (w : World), ord.length + fuel = ops.size → m ≤ kk → kk ≤ cntL orc ops ops.size → Inv2 P fn b orc ops ρ Hs res listed ord kk a w → wpAny P .any ops (kwp P R k) fuel listed a w := by
  intro fuel
  induction fuel with
  | zero =>
    intro listed ord kk a w hln hmk hkk inv
    have hall : ∀ i, i < ops.size → i ∈ ord := by
      intro i hi
      rcases Decidable.em (i ∈ ord) with h | h
      · exact h
      · exfalso
        have := nodup_lt (l := i :: ord) (m := ops.size) (List.nodup_cons.2 ⟨h, inv.nd⟩) (fun j hj => by
          rcases List.mem_cons.1 hj with rfl | hj
          · exact hi
          · exact ((inv.mem j).1 hj).1)
        simp at this
        omega
    refine ⟨?_, ?_⟩
    · rw [List.eq_nil_iff_forall_not_mem]
      intro i hi
      obtain ⟨h0, o, ho, _⟩ := mem_ready.1 hi
      have hi' := (Array.getElem?_eq_some_iff.1 ho).1
      have h1 := ((inv.mem i).1 (hall i hi')).2
      have hsz : i < listed.size := by rw [inv.sz]; exact hi'
      simp [Array.getD, hsz] at h0 h1
      rw [h0] at h1
      cases h1
    · have hk : kk = cntL orc ops ops.size := by
        rcases Nat.lt_or_ge kk (cntL orc ops ops.size) with h | h
        · obtain ⟨j, h1, h2, h3⟩ := cntL_ex h
          have := (inv.ld j h1 h2).1 (hall j h1)
          omega
        · omega
      obtain ⟨M, φ, ξ, Hk, e, g1, g2, g3⟩ := inv.st
      rw [hk, hHn] at e
      obtain rfl := Option.some.inj e
      refine fin a w ⟨M, φ, ξ, g1, fun t α ht => ?_⟩ inv.tm inv.df
      rw [look_app] at ht
      cases hx : look (allEnv ops res 0) t with
      | some γ =>
        rw [hx] at ht
        simp only [Option.some.injEq] at ht
        subst ht
        obtain ⟨q, h4, h5⟩ := look_allEnv hx
        rw [Nat.zero_add] at h5
        have hqm : q < ops.size := by rw [← hlen]; exact (List.getElem?_eq_some_iff.1 h4).1
        exact g3 q (hall q hqm) t γ h5 h4
      | none =>
        rw [hx] at ht
        refine g2 t α (look_keep ht) fun j hj hd => ?_
        have := (List.mem_filter.1 (look_mem ht)).2
        simp only [List.all_eq_true, List.mem_range] at this
        have := this j ((inv.mem j).1 hj).1
        rw [hd] at this
        simp at this
  | succ fuel ih =>
    intro listed ord kk a w hln hmk hkk inv
    have some' : ∃ i, i ∈ Region.ready .any ops listed := by
      have : ∃ i, i < ops.size ∧ i ∉ ord := by
        rcases Decidable.em (∃ i, i < ops.size ∧ i ∉ ord) with h | h
        · exact h
        · exfalso
          have := nodup_ge (l := ord) (m := ops.size) fun j hj => Decidable.byContradiction fun hn => h ⟨j, hj, hn⟩
          omega
      obtain ⟨i, hi, hn⟩ := this
      induction i using Nat.strongRecOn with
      | _ i ih2 =>
        by_cases hd : ∃ j, depB ops i j = true ∧ j ∉ ord
        · obtain ⟨j, hj, hjn⟩ := hd
          have := ok.back i j hj
          exact ih2 j this (by omega) hjn
        · refine ⟨i, mem_ready.2 ⟨?_, ops[i], Array.getElem?_eq_getElem hi, fun e he hb => ?_⟩⟩
          · have hsz : i < listed.size := by rw [inv.sz]; exact hi
            cases hv : listed.getD i true with
            | false => rfl
            | true =>
              exfalso
              refine hn ((inv.mem i).2 ⟨hi, ?_⟩)
              simp [Array.getD, hsz] at hv ⊢
              exact hv
          · have hdep : depB ops i e.on = true := by
              unfold depB
              simp only [Array.getElem?_eq_getElem hi]
              exact Array.any_eq_true'.2 ⟨e, he, by simp [hb]⟩
            have : e.on ∈ ord := Decidable.byContradiction fun hn => hd ⟨e.on, hdep, hn⟩
            exact ((inv.mem _).1 this).2
    refine ⟨fun h0 => ?_, fun i hi => ?_⟩
    · obtain ⟨i, hi⟩ := some'
      rw [h0] at hi
      cases hi
    · obtain ⟨h0, o, ho, hrd⟩ := mem_ready.1 hi
      have hin := (Array.getElem?_eq_some_iff.1 ho).1
      have hdep : ∀ j, depB ops i j = true → j ∈ ord := by
        intro j hj
        obtain ⟨o', ho', e, he, hb, rfl⟩ := depB_spec hj
        rw [ho] at ho'
        obtain rfl := Option.some.inj ho'
        exact (inv.mem _).2 ⟨by have := ok.back i e.on hj; omega, hrd e he hb⟩
      have hni : i ∉ ord := fun h => by
        have h1 := ((inv.mem i).1 h).2
        have hsz : i < listed.size := by rw [inv.sz]; exact hin
        simp [Array.getD, hsz] at h0 h1
        rw [h0] at h1
        cases h1
      have clos : ∀ j, bitB (masks ops ops.size) i j = true → j ∈ ord := fun j hj => mask_in inv.closed hin hdep hj
      have closO : ∀ j ∈ ord, bitB (masks ops ops.size) j i = true → False := fun j hj hb => hni (mask_in inv.closed ((inv.mem j).1 hj).1 (inv.closed j hj) hb)
      obtain ⟨M, φ, ξ, Hk, e, g1, g2, g3⟩ := inv.st
      have henv : EnvR P M φ (resEnv ops i res 0 ++ oldEnv ops (masks ops ops.size) i ρ) a.tmps := by
        intro t α ht
        rw [look_app] at ht
        cases hx : look (resEnv ops i res 0) t with
        | some γ =>
          rw [hx] at ht
          simp only [Option.some.injEq] at ht
          subst ht
          obtain ⟨q, h4, h5, h6⟩ := look_resEnv hx
          rw [Nat.zero_add] at h5 h6
          exact g3 q (hdep q h6) t γ h5 h4
        | none =>
          rw [hx] at ht
          obtain ⟨k1, k2⟩ := look_old ht
          exact g2 t α k1 fun j hj hd => closO j hj (k2 j ((inv.mem j).1 hj).1 hd)
      have hdst : dstOf ops i = o.dst := by simp [dstOf, ho]
      -- the state behind it
      have step : ∀ (β : AVal) (v : Value) (M' : Fz) (φ' : Nat → Value) (ξ' : Nat → Option Nat) (w' : World) (k2 : Nat) (H2 : AStore), res[i]? = some β → Hs[k2]? = some H2 → (∀ j, j < ops.size → loudB orc ops j = true → (j ∈ i :: ord ↔ cntL orc ops j < k2)) → Core P b M' φ' ξ' H2 w' → M.le M' → (∀ t α, look ρ t = some α → ∀ l ∈ α.labs, φ' l = φ l) → (∀ j ∈ ord, ∀ α, res[j]? = some α → ∀ l ∈ α.labs, φ' l = φ l) → RelV P M' φ' β v →
          Inv2 P fn b orc ops ρ Hs res (listed.setIfInBounds i true) (i :: ord) k2 (a.put o.dst v) w' := by
        intro β v M' φ' ξ' w' k2 H2 hβ hH2 hld c1 c2 c4 c5 c3
        refine ⟨by simp [inv.sz], List.nodup_cons.2 ⟨hni, inv.nd⟩, fun j => ?_, fun j hj q hq => ?_, hld, by rw [put_size]; exact inv.tm, by rw [put_defers]; exact inv.df, M', φ', ξ', H2, hH2, c1, fun t α ht hne => ?_, fun j hj d α hd hα => ?_⟩
        · rw [List.mem_cons, inv.mem j]
          have hsz : i < listed.size := by rw [inv.sz]; exact hin
          by_cases e : j = i
          · subst e
            simp [Array.getD, hsz, hin]
          · have e' : ¬ i = j := fun h => e h.symm
            have hs : (listed.setIfInBounds i true).getD j false = listed.getD j false := by
              rw [Array.getD_eq_getD_getElem?, Array.getD_eq_getD_getElem?, Array.getElem?_setIfInBounds_ne e']
            rw [hs]
            simp [e]
        · rcases List.mem_cons.1 hj with rfl | hj
          · exact List.mem_cons_of_mem _ (hdep q hq)
          · exact List.mem_cons_of_mem _ (inv.closed j hj q hq)
        · obtain ⟨u, h1, h2⟩ := g2 t α ht fun j hj => hne j (List.mem_cons_of_mem _ hj)
          refine ⟨u, ?_, relV_mono c2 (relV_labs (c4 t α ht) h2)⟩
          rw [put_get (hdst ▸ hne i (List.mem_cons_self ..))]
          exact h1
        · rcases List.mem_cons.1 hj with rfl | hj
          · rw [hβ] at hα
            obtain rfl := Option.some.inj hα
            refine ⟨v, ?_, c3⟩
            rw [← hdst, hd]
            have := ok.dlt j d hd
            simp [Act.put, inv.tm, ← hnt, this]
          · obtain ⟨u, h1, h2⟩ := g3 j hj d α hd hα
            refine ⟨u, ?_, relV_mono c2 (relV_labs (c5 j hj α hα) h2)⟩
            have hne : o.dst ≠ some d := by
              rw [← hdst]
              intro e
              rcases Nat.lt_trichotomy i j with h | h | h
              · exact ok.dd j i d h hd e
              · subst h; exact hni hj
              · exact ok.dd i j d h e hd
            rw [put_get hne]
            exact h1
      have hln' : (i :: ord).length + fuel = ops.size := by simp; omega
      unfold wpOp
      simp only [ho]
      cases hloud : loudB orc ops i with
      | false =>
        have hmay : mayB orc ops (masks ops ops.size) i kk = true := by
          simp only [mayB, List.all_eq_true, List.mem_range]
          intro j hj
          cases hlj : loudB orc ops j with
          | false => rfl
          | true =>
            have hx := inv.ld j hj hlj
            simp only [Bool.not_true, Bool.false_or, Bool.and_eq_true, Bool.or_eq_true, Bool.not_eq_true']
            refine ⟨?_, ?_⟩
            · rcases Decidable.em (cntL orc ops j < kk) with h | h
              · right
                cases hb : bitB (masks ops ops.size) j i with
                | false => rfl
                | true => exact (closO j (hx.2 h) hb).elim
              · left
                rw [Bool.eq_false_iff]
                intro h'
                rw [Nat.blt_eq] at h'
                exact h h'
            · cases hb : bitB (masks ops ops.size) i j with
              | false => exact .inl rfl
              | true => exact .inr (by rw [Nat.blt_eq]; exact hx.1 (clos j hb))
        obtain ⟨β, C', r1, r3, r2⟩ := hq i hin hloud kk Hk hkk e hmay
        have hld : ∀ j, j < ops.size → loudB orc ops j = true → (j ∈ i :: ord ↔ cntL orc ops j < kk) := fun j hj hlj => by
          rw [List.mem_cons]
          refine ⟨fun h => ?_, fun h => .inr ((inv.ld j hj hlj).2 h)⟩
          rcases h with rfl | h
          · rw [hloud] at hlj; cases hlj
          · exact (inv.ld j hj hlj).1 h
        have hone : ∃ o, ops[i]? = some o ∧ ((Region.wanted o (yielded ops a.tmps) = false ∧ β = .undef) ∨ (Region.wanted o (yielded ops a.tmps) = true ∧ Yld P o a w fun v w' => ∃ M', Core P b M' φ ξ Hk w' ∧ M.le M' ∧ RelV P M' φ β v)) := by
          rcases r2 with r2 | r2
          · exact headOne_free g1 henv r2 r3
          · exact headOne_ok g1 henv r2 r3
        obtain ⟨o', ho', hcase⟩ := hone
        rw [ho] at ho'
        obtain rfl := Option.some.inj ho'
        have st : ∀ (v : Value) (M' : Fz) (w' : World), Core P b M' φ ξ Hk w' → M.le M' → RelV P M' φ β v → wpAny P .any ops (kwp P R k) fuel (listed.setIfInBounds i true) (a.put o.dst v) w' := fun v M' w' c1 c2 c3 =>
          ih _ (i :: ord) kk _ w' hln' hmk hkk (step β v M' φ ξ w' kk Hk r1 e hld c1 c2 (fun _ _ _ _ _ => rfl) (fun _ _ _ _ _ _ => rfl) c3)
        rcases hcase with ⟨hw, rfl⟩ | ⟨hw, hy⟩
        · simp only [hw, Bool.false_eq_true, if_false]
          exact st undef M w g1 (Fz.le_refl _) rfl
        · simp only [hw, if_true]
          left
          unfold Oper.wp
          rcases hy with ⟨v, w', h1, M', h2, h3, h4⟩ | ⟨w', h1, M', h2, h3, h4⟩ | ⟨f, args, h1, h2⟩
          · rw [h1]
            simp only [Oper.upon_value]
            exact st v M' w' h2 h3 h4
          · rw [h1]
            simp only [Oper.upon_skip]
            exact st undef M' w' h2 h3 h4
          · rw [h1]
            simp only [Oper.upon_enter]
            refine h2.mono ?_
            rintro e w' ⟨v, rfl, M', h2, h3, h4⟩
            exact st v M' w' h2 h3 h4
      | true =>
        obtain ⟨β, H1, H2, C', r1, r2, r3, r4, r5⟩ := hl i hin hloud
        have hck : cntL orc ops i = kk := by
          rcases Nat.lt_trichotomy (cntL orc ops i) kk with h | h | h
          · exact absurd ((inv.ld i hin hloud).2 h) hni
          · exact h
          · obtain ⟨j, h1, h2, h3⟩ := cntL_ex h
            have := (inv.ld j (by omega) h2).1 (clos j (ok.chain i j hin h1 (by omega) hloud h2))
            omega
        have hkk' : kk + 1 ≤ cntL orc ops ops.size := by
          have := cntL_lt (orc := orc) (ops := ops) hin hloud
          omega
        rw [hck] at r2 r3
        rw [e] at r2
        obtain rfl := Option.some.inj r2
        have hld : ∀ j, j < ops.size → loudB orc ops j = true → (j ∈ i :: ord ↔ cntL orc ops j < kk + 1) := fun j hj hlj => by
          rw [List.mem_cons]
          refine ⟨fun h => ?_, fun h => ?_⟩
          · rcases h with rfl | h
            · omega
            · have := (inv.ld j hj hlj).1 h; omega
          · rcases Nat.lt_or_ge (cntL orc ops j) kk with h1 | h1
            · exact .inr ((inv.ld j hj hlj).2 h1)
            · exact .inl (cntL_inj hlj hloud (by omega))
        have oldL : ∀ t α, look ρ t = some α → ∀ l ∈ α.labs, l < L0 + 20 * i := fun t α ht l hlb => by
          have := ok.old l (List.mem_flatMap.2 ⟨_, look_mem ht, hlb⟩)
          omega
        have resL : ∀ j ∈ ord, ∀ α, res[j]? = some α → ∀ l ∈ α.labs, l < L0 + 20 * i := fun j hj α hα => by
          rcases ok.labs i j α hin ((inv.mem j).1 hj).1 (by omega) hloud hα with h | h | h
          · subst h; exact absurd hj hni
          · exact absurd (mask_in inv.closed ((inv.mem j).1 hj).1 (inv.closed j hj) h) hni
          · exact h
        unfold loudAt at r4
        simp only [ho] at r4
        cases hg : gdE ops o (opEnv ops (masks ops ops.size) ρ res i) with
        | none => rw [hg] at r4; cases r4
        | some z =>
          rw [hg] at r4
          have hw := gdE_ok (P := P) (M := M) (φ := φ) henv hg
          cases z with
          | false =>
            simp only [Option.some.injEq, Prod.mk.injEq] at r4
            obtain ⟨rfl, rfl, rfl⟩ := r4
            simp only [hw, Bool.false_eq_true, if_false]
            exact ih _ (i :: ord) (kk + 1) _ w hln' (by omega) hkk' (step _ undef M φ ξ w (kk + 1) _ r1 r3 hld g1 (Fz.le_refl _) (fun _ _ _ _ _ => rfl) (fun _ _ _ _ _ _ => rfl) rfl)
          | true =>
            simp only at r4
            split at r4
            · rename_i β1 H3 C1 hs
              simp only [Option.some.injEq, Prod.mk.injEq] at r4
              obtain ⟨rfl, rfl, rfl⟩ := r4
              obtain ⟨c1, c2⟩ := AllP.app r5
              have st : ∀ (v : Value) (M' : Fz) (φ' : Nat → Value) (ξ' : Nat → Option Nat) (w' : World), Core P b M' φ' ξ' H3 w' → Later (L0 + 20 * i) M M' φ φ' → RelV P M' φ' β1 v → wpAny P .any ops (kwp P R k) fuel (listed.setIfInBounds i true) (a.put o.dst v) w' := fun v M' φ' ξ' w' k1 k2 k3 =>
                ih _ (i :: ord) (kk + 1) _ w' hln' (by omega) hkk' (step _ v M' φ' ξ' w' (kk + 1) H3 r1 r3 hld k1 k2.1 (fun t α ht l hlb => k2.2 l (oldL t α ht l hlb)) (fun j hj α hα l hlb => k2.2 l (resL j hj α hα l hlb)) (dcd_ok k3 c2))
              simp only [hw, if_true]
              left
              unfold Oper.wp
              rcases stepE_ok (b := b) hs c1 M φ ξ w a g1 henv with ⟨v, w', k1, M', φ', ξ', k2, _, k3, k4⟩ | ⟨w', k1, M', φ', ξ', k2, _, k3, k4⟩ | ⟨f, args, k1, k2⟩
              · rw [k1]
                simp only [Oper.upon_value]
                exact st v M' φ' ξ' w' k2 k3 k4
              · rw [k1]
                simp only [Oper.upon_skip]
                exact st undef M' φ' ξ' w' k2 k3 k4
              · rw [k1]
                simp only [Oper.upon_enter]
                refine k2.mono ?_
                rintro e w' ⟨v, rfl, M', φ', ξ', k2, _, k3, k4⟩
                exact st v M' φ' ξ' w' k2 k3 k4
            · cases r4

/-- A region that draws its order. -/
theorem regG {c : Code} {ρ' : AEnv} {H' : AStore} (orc : List (Nat × Orc)) (dec : List (Nat × Bool)) (L0 : Nat) (ls lh : List Nat) (C : List Prop) (hm : P.follows .mixedOrders = true) (hc : Code.kind c = .region ops true) (h : evG P n0 fn.ntmps orc dec L0 ls lh ops ρ H = some (ρ', H', C)) (hC : AllP C) (hr : Run P fn b R k ρ' H') : Run P fn b R (.code c :: k) ρ H := by
  cases c <;> simp [Code.kind] at hc
  rename_i ops' _
  obtain ⟨e1, e2⟩ := hc
  subst e2
  have e1 := e1.symm
  subst e1
  unfold evG at h
  split at h
  · cases h
  · rename_i res Hs C1 h1
    split at h
    · rename_i hn
      simp only [Bool.and_eq_true] at hn
      split at h
      · cases h
      · rename_i C2 h2
        split at h
        · cases h
        · rename_i Hn hHn
          split at h
          · rename_i ρ2 H2 h3 h4
            simp only [Option.some.injEq, Prod.mk.injEq] at h
            obtain ⟨rfl, rfl, rfl⟩ := h
            obtain ⟨c1, c2⟩ := AllP.app hC
            have ok := plan2_ok hn.2
            obtain ⟨m1, m2, m3, m4, m5⟩ := main_ok ok.back h1 c1
            have quiet : ∀ i, i < ops.size → loudB orc ops i = false → ∀ k Hk, k ≤ cntL orc ops ops.size → Hs[k]? = some Hk → mayB orc ops (masks ops ops.size) i k = true → ∃ β C', res[i]? = some β ∧ AllP C' ∧ (headOne P orc dec ops (oldEnv ops (masks ops ops.size) i ρ) [] res i = some (β, C') ∨ headOne P orc dec ops (oldEnv ops (masks ops ops.size) i ρ) Hk res i = some (β, C')) := by
              intro i hi hl k Hk hk hHk hmay
              obtain ⟨β, H1, C', q1, q2, q3, q4⟩ := m5 i hi hl
              unfold quietAt at q3
              split at q3
              · rename_i r hr
                simp only [Option.some.injEq] at q3
                subst q3
                exact ⟨β, C', q1, q4, .inl hr⟩
              · rename_i hr
                by_cases e : k = cntL orc ops i
                · subst e
                  rw [q2] at hHk
                  obtain rfl := Option.some.inj hHk
                  exact ⟨β, C', q1, q4, .inr q3⟩
                · rcases extra_ok h2 c2 i k (List.mem_flatMap.2 ⟨i, List.mem_range.2 hi, List.mem_map.2 ⟨k, List.mem_range.2 (by omega), rfl⟩⟩) hl e hmay with ⟨r, hr'⟩ | ⟨H3, β', C3, k1, k2, k3, k4⟩
                  · rw [hr] at hr'; cases hr'
                  · rw [hHk] at k1
                    obtain rfl := Option.some.inj k1
                    exact ⟨β', C3, k2, k4, .inr k3⟩
            intro a w g1 g2 g3
            refine wp_region_any hm ?_
            refine all_any rfl m1 ok m4 quiet hHn (fun a w k1 k2 k3 => hr a w (k1.trim h3 h4 hn.1) k2 k3) _ _ [] 0 a _ (by simp) (Nat.le_refl _) (Nat.zero_le _) ?_
            obtain ⟨M, φ, ξ, q1, q2⟩ := g1
            refine ⟨by simp, List.nodup_nil, fun i => ?_, fun i hi => (by cases hi), fun j _ _ => ⟨fun h => (by cases h), fun h => (by omega)⟩, g2, g3, M, φ, ξ, _, m3, q1.draws 1, fun t α ht _ => q2 t α ht, fun i hi => (by cases hi)⟩
            simp [Array.getD]
          · cases h
    · cases h
end
end Go.Proofs.YtlhbekiplnmolaaDoor
