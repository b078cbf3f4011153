/- The trace's lines: plain functions, and that the program's and the reference's are the same. -/
import Derived.Test.YtlhbekiplnmolaaDoorZx
import Derived.Test.YtlhbekiplnmolaaDoorEL
import Derived.IntWalk
set_option linter.unusedVariables false
set_option linter.unusedSimpArgs false
set_option linter.unusedVariables false
set_option linter.unusedSimpArgs false
namespace Go.Proofs.YtlhbekiplnmolaaDoor
open Go.RowKit Go.IntWalk

theorem loopO_go {σ τ : Type} {body : σ → Option (σ ⊕ τ)} {s s' : σ} (h : body s = some (.inl s')) : loopO body s = loopO body s' := by rw [loopO_eq, h]; rfl
theorem loopO_end {σ τ : Type} {body : σ → Option (σ ⊕ τ)} {s : σ} {r : τ} (h : body s = some (.inr r)) : loopO body s = some r := by rw [loopO_eq, h]; rfl
theorem wr {x : Int} (h : -9223372036854775808 ≤ x ∧ x ≤ 9223372036854775807) : IntKind.wrap .i64 x = x := i64_in x h
theorem wru {x : Int} (h : 0 ≤ x ∧ x ≤ 18446744073709551615) : IntKind.wrap .u64 x = x := u64_in x h

/-! ### Loops over a list -/
/-- A list gone over from its beginning, until something ends it. -/
def foldE {α σ τ : Type} (step : Nat → α → σ → σ ⊕ τ) (fin : σ → τ) : Nat → List α → σ → τ
  | _, [], s => fin s
  | i, x :: l, s => match step i x s with
    | .inl s' => foldE step fin (i + 1) l s'
    | .inr r => r
theorem loop_fold {α σ τ S : Type} {l : List α} {d : α} {mk : Nat → σ → S} {body : S → Option (S ⊕ τ)} {step : Nat → α → σ → σ ⊕ τ} {fin : σ → τ} {Inv : Nat → σ → Prop}
    (h1 : ∀ i, i < l.length → ∀ s, Inv i s → body (mk i s) = some (match step i (l.getD i d) s with | .inl s' => .inl (mk (i + 1) s') | .inr r => .inr r) ∧ ∀ s', step i (l.getD i d) s = .inl s' → Inv (i + 1) s')
    (h2 : ∀ s, Inv l.length s → body (mk l.length s) = some (.inr (fin s))) : ∀ i, i ≤ l.length → ∀ s, Inv i s → loopO body (mk i s) = some (foldE step fin i (l.drop i) s) := by
  intro i hi
  obtain ⟨m, hm⟩ : ∃ m, m = l.length - i := ⟨_, rfl⟩
  induction m generalizing i with
  | zero =>
    intro s hs
    obtain rfl : i = l.length := by omega
    rw [List.drop_of_length_le (Nat.le_refl _)]
    exact loopO_end (h2 s hs)
  | succ m ih =>
    intro s hs
    have hlt : i < l.length := by omega
    obtain ⟨e, e2⟩ := h1 i hlt s hs
    rw [List.drop_eq_getElem_cons hlt]
    have eg : l.getD i d = l[i] := by simp [List.getD, List.getElem?_eq_getElem hlt]
    rw [eg] at e e2
    unfold foldE
    cases hst : step i l[i] s with
    | inl s' =>
      rw [hst] at e
      rw [loopO_go e]
      exact ih (i + 1) hlt (by omega) s' (e2 s' hst)
    | inr r =>
      rw [hst] at e
      exact loopO_end e

/-! ### Numerals -/
theorem dec_len {n : Nat} (h : n < 18446744073709551616) : (Lib.decDigits n).length ≤ 20 := by rw [Lib.decDigits_length]; exact Lib.nDigits_le20 n h
theorem f_digits (x : Int) : F_trace_digits x = some (Lib.decDigits x.toNat) := rfl
theorem f_signed (x : Int) : F_trace_signed x = some (Lib.itoa x) := rfl
theorem dig1 : ∀ k : Fin 10, List.drop k.val (List.take (k.val + 1) ([48, 49, 50, 51, 52, 53, 54, 55, 56, 57] : Str)) = [UInt8.ofNat (48 + k.val)] := by decide
theorem dig2 {k : Nat} (h : k < 10) : List.drop k (List.take (k + 1) ([48, 49, 50, 51, 52, 53, 54, 55, 56, 57] : Str)) = [UInt8.ofNat (48 + k)] := dig1 ⟨k, h⟩
theorem dec_big {n : Nat} (h : ¬ n < 10) : Lib.decDigits n = Lib.decDigits (n / 10) ++ [UInt8.ofNat (48 + n % 10)] := by rw [Lib.decDigits, dif_neg h]
theorem f_dig20L : ∀ (m n : Nat) (t : Str), n ≤ m → n < 18446744073709551616 → t.length ≤ 80 → ∃ q : Int × Str, loopO F_congressref20_Digits_b1 ((n : Int), t) = some q ∧ ∃ k : Nat, q.1 = (k : Int) ∧ k < 10 ∧ q.2.length ≤ t.length + 20 ∧ [UInt8.ofNat (48 + k)] ++ q.2 = Lib.decDigits n ++ t := by
  have key : ∀ (j n : Nat) (t : Str), n < 10 ^ j → n < 18446744073709551616 → t.length ≤ 100 - j → j ≤ 20 → ∃ q : Int × Str, loopO F_congressref20_Digits_b1 ((n : Int), t) = some q ∧ ∃ k : Nat, q.1 = (k : Int) ∧ k < 10 ∧ q.2.length ≤ t.length + j ∧ [UInt8.ofNat (48 + k)] ++ q.2 = Lib.decDigits n ++ t := by
    intro j
    induction j with
    | zero =>
      intro n t h1 h2 h3 _
      have hn : n = 0 := by simpa using h1
      subst hn
      refine ⟨(((0 : Nat) : Int), t), loopO_end ?_, 0, rfl, by decide, by simp, ?_⟩
      · unfold F_congressref20_Digits_b1
        rw [if_neg (by simp)]
      · rw [Lib.decDigits_one (by decide)]
    | succ j ih =>
      intro n t h1 h2 h3 hj
      by_cases h : n < 10
      · refine ⟨((n : Int), t), loopO_end ?_, n, rfl, h, by simp, ?_⟩
        · unfold F_congressref20_Digits_b1
          rw [if_neg (by simp; omega)]
        · rw [Lib.decDigits_one h]
      · have h10 : n / 10 < 10 ^ j := by rw [Nat.pow_succ] at h1; omega
        have e1 : Int.tmod (n : Int) 10 = ((n % 10 : Nat) : Int) := by rw [Int.tmod_eq_emod_of_nonneg (by omega)]; omega
        have e2 : Int.tdiv (n : Int) 10 = ((n / 10 : Nat) : Int) := by rw [Int.tdiv_eq_ediv_of_nonneg (by omega)]; omega
        have e3 : IntKind.wrap .u64 (((n % 10 : Nat) : Int) + 1) = ((n % 10 + 1 : Nat) : Int) := by rw [wru (by omega)]; omega
        have e4 : IntKind.wrap .u64 ((n / 10 : Nat) : Int) = ((n / 10 : Nat) : Int) := wru (by omega)
        have hb : F_congressref20_Digits_b1 ((n : Int), t) = some (.inl (((n / 10 : Nat) : Int), [UInt8.ofNat (48 + n % 10)] ++ t)) := by
          unfold F_congressref20_Digits_b1
          simp only [e1, e2, e3, e4, Int.toNat_natCast, dig2 (Nat.mod_lt n (by decide : 0 < 10))]
          rw [if_pos (by simp; omega), if_pos ⟨by omega, by omega, by omega, by simp; omega⟩, if_pos (by simp [maxLen]; omega)]
        obtain ⟨q, q1, k, q2, q3, q4, q5⟩ := ih (n / 10) ([UInt8.ofNat (48 + n % 10)] ++ t) h10 (by omega) (by simp; omega) (by omega)
        refine ⟨q, (loopO_go hb).trans q1, k, q2, q3, by simp at q4; omega, ?_⟩
        rw [q5, dec_big h, List.append_assoc]
  intro m n t _ h2 h3
  obtain ⟨q, q1, k, q2, q3, q4, q5⟩ := key 20 n t (by omega) h2 (by omega) (Nat.le_refl _)
  exact ⟨q, q1, k, q2, q3, q4, q5⟩
theorem f_dig20 {x : Int} (h : 0 ≤ x ∧ x ≤ 18446744073709551615) : F_congressref20_Digits x = some (Lib.decDigits x.toNat) := by
  obtain ⟨n, rfl⟩ : ∃ n : Nat, x = (n : Int) := ⟨x.toNat, by omega⟩
  obtain ⟨q, q1, k, q2, q3, q4, q5⟩ := f_dig20L n n [] (Nat.le_refl _) (by omega) (by simp)
  unfold F_congressref20_Digits
  rw [q1, Option.bind_some]
  have e3 : IntKind.wrap .u64 ((k : Int) + 1) = ((k + 1 : Nat) : Int) := by rw [wru (by omega)]; omega
  simp only [q2, e3, Int.toNat_natCast, dig2 q3]
  simp at q4
  rw [if_pos ⟨by omega, by omega, by omega, by simp; omega⟩, if_pos (by simp [maxLen]; omega), q5]
  simp
theorem f_sig20 {x : Int} (h : -9223372036854775808 ≤ x ∧ x ≤ 9223372036854775807) : F_congressref20_Signed x = some (Lib.itoa x) := by
  unfold F_congressref20_Signed Lib.itoa
  by_cases h0 : x < 0
  · rw [if_pos (by simpa using h0), if_pos h0]
    have e : IntKind.wrap .u64 ((IntKind.wrap .u64 (IntKind.wrap .i64 (0 - (IntKind.wrap .i64 (x + 1))))) + 1) = ((x.natAbs : Nat) : Int) := by
      rw [wr (x := x + 1) (by omega), wr (x := 0 - (x + 1)) (by omega), wru (x := 0 - (x + 1)) (by omega), wru (by omega)]
      omega
    rw [e, f_dig20 (by omega), Option.bind_some, Int.toNat_natCast]
    have := dec_len (n := x.natAbs) (by omega)
    rw [if_pos (by simp [maxLen]; omega)]
    rfl
  · rw [if_neg (by simpa using h0), if_neg h0, wru (by omega), f_dig20 (by omega)]
    rfl
theorem itoa_len {x : Int} (h : IntKind.i64.has x) : (Lib.itoa x).length ≤ 21 := Lib.itoa_length_le x h.1 h.2
theorem dec_len' {x : Int} (h : IntKind.u64.has x) : (Lib.decDigits x.toNat).length ≤ 20 := dec_len (by have := h.2; have e : IntKind.u64.max = 18446744073709551615 := rfl; rw [e] at this; have := h.1; have e : IntKind.u64.min = 0 := rfl; omega)

/-! ### Lines -/
def Sg.text (s : S35.ty) : Str := s.2.2.2.2.2.2.2.2.2.2.2.2.2.1
def Sg.view (s : S35.ty) : Str := s.2.2.2.2.2.2.2.2.2.2.2.2.2.2
def lineT (s : S35.ty) : List Str :=
  if s.2.2.2.2.2.1 = 0 then [([97, 110, 115, 119, 101, 114] : Str), Lib.itoa s.2.2.2.2.2.2.1, Lib.decDigits s.2.2.2.2.2.2.2.1.toNat, Lib.decDigits s.2.2.2.2.2.2.2.2.1.toNat, Lib.itoa s.2.2.2.2.2.2.2.2.2.1]
  else if s.2.2.2.2.2.1 = 1 then [([99, 111, 110, 102] : Str), Lib.decDigits s.2.2.2.2.2.2.2.2.2.2.1.1.toNat, Lib.decDigits s.2.2.2.2.2.2.2.2.2.2.1.2.1.toNat, Lib.decDigits s.2.2.2.2.2.2.2.2.2.2.1.2.2.toNat]
  else if s.2.2.2.2.2.1 = 2 then [([118, 105, 101, 119] : Str), Lib.itoa s.2.2.2.2.2.2.2.2.2.1, Lib.decDigits s.2.2.2.2.2.2.2.2.1.toNat, Sg.view s]
  else if s.2.2.2.2.2.1 = 3 then [([109, 101, 115, 115, 97, 103, 101] : Str), Lib.itoa s.2.2.2.2.2.2.2.2.2.1, Lib.itoa s.2.2.2.2.2.2.2.2.2.2.2.2.1.2.1, Lib.decDigits s.2.2.2.2.2.2.2.2.2.2.2.2.1.2.2.toNat, Lib.decDigits s.2.2.2.2.2.2.2.2.1.toNat, ([61] : Str) ++ Sg.text s]
  else [[]]
def lineS (s : S35.ty) : Str := Lib.join ([Lib.itoa s.1, Lib.itoa s.2.1, Lib.decDigits s.2.2.1.toNat, Lib.itoa s.2.2.2.1, Lib.decDigits s.2.2.2.2.1.toNat] ++ lineT s) [32] ++ [10]
def Sg.len (s : S35.ty) : Nat := (Sg.text s).length + (Sg.view s).length

structure SgOk (s : S35.ty) : Prop where
  a : IntKind.i64.has s.1
  b : IntKind.i64.has s.2.1
  c : IntKind.u32.has s.2.2.1
  d : IntKind.i64.has s.2.2.2.1
  e : IntKind.u64.has s.2.2.2.2.1
  f : IntKind.i64.has s.2.2.2.2.2.2.1
  g : IntKind.u64.has s.2.2.2.2.2.2.2.1
  h : IntKind.u64.has s.2.2.2.2.2.2.2.2.1
  i : IntKind.i64.has s.2.2.2.2.2.2.2.2.2.1
  j1 : IntKind.u32.has s.2.2.2.2.2.2.2.2.2.2.1.1
  j2 : IntKind.u32.has s.2.2.2.2.2.2.2.2.2.2.1.2.1
  j3 : IntKind.u32.has s.2.2.2.2.2.2.2.2.2.2.1.2.2
  k2 : IntKind.i64.has s.2.2.2.2.2.2.2.2.2.2.2.2.1.2.1
  k3 : IntKind.u64.has s.2.2.2.2.2.2.2.2.2.2.2.2.1.2.2
theorem sgOk {s : S35.ty} (h : S35.ok s) : SgOk s := by
  simp only [Sh.ok] at h
  obtain ⟨h1, h2, h3, h4, h5, h6, h7, h8, h9, h10, ⟨a1, a2, a3⟩, _, ⟨c1, c2, c3⟩, _, _⟩ := h
  exact ⟨h1, h2, h3, h4, h5, h7, h8, h9, h10, a1, a2, a3, c2, c3⟩
theorem u32_64 {x : Int} (h : IntKind.u32.has x) : IntKind.wrap .u64 x = x ∧ IntKind.u64.has x ∧ 0 ≤ x ∧ x ≤ 18446744073709551615 := by
  have h1 : (0 : Int) ≤ x := h.1
  have h2 : x ≤ 4294967295 := h.2
  exact ⟨wru (by omega), ⟨by show (0 : Int) ≤ x; omega, by show x ≤ 18446744073709551615; omega⟩, by omega⟩
theorem u64_b {x : Int} (h : IntKind.u64.has x) : 0 ≤ x ∧ x ≤ 18446744073709551615 := ⟨h.1, h.2⟩
theorem i64_b {x : Int} (h : IntKind.i64.has x) : -9223372036854775808 ≤ x ∧ x ≤ 9223372036854775807 := ⟨h.1, h.2⟩
theorem apOk_s {n b : Nat} (h : n * b ≤ 1000000) (h2 : n ≤ 1000000) : apOk n b := ⟨by omega, by simp [maxLen]; omega⟩

theorem f_joinNl {l : List Str} (h1 : l.length ≤ 100) (h2 : (Lib.join l [32]).length ≤ 140737488355300) : ((F_strings_Join l [32]).bind fun t => if List.length t + List.length ([10] : Str) ≤ maxLen then some (t ++ [10]) else none) = some (Lib.join l [32] ++ [10]) := by
  unfold F_strings_Join
  rw [if_pos ⟨by omega, by omega⟩, Option.bind_some, if_pos (by simp [maxLen]; omega)]

set_option maxHeartbeats 1000000 in
theorem f_lineT {s : S35.ty} (o : SgOk s) (hl : Sg.len s ≤ 140737488351232) : F_trace_Line s = some (lineS s) := by
  have l1 := itoa_len o.a
  have l2 := itoa_len o.b
  have l3 := dec_len' (u32_64 o.c).2.1
  have l4 := itoa_len o.d
  have l5 := dec_len' o.e
  unfold Sg.len at hl
  unfold F_trace_Line lineS lineT
  simp only [f_signed, f_digits, Option.bind_some, (u32_64 o.c).1, (u32_64 o.j1).1, (u32_64 o.j2).1, (u32_64 o.j3).1]
  by_cases k0 : s.2.2.2.2.2.1 = 0
  · have k0' : (s.2.2.2.2.2.1 == 0) = true := by simp [k0]
    rw [if_pos k0', if_pos k0, if_pos (apOk_s (by decide) (by decide))]
    have := itoa_len o.f
    have := dec_len' o.g
    have := dec_len' o.h
    have := itoa_len o.i
    exact f_joinNl (by simp) (by rw [List.cons_append, Lib.join_length]; simp [Lib.lens]; omega)
  have k0' : ¬ (s.2.2.2.2.2.1 == 0) = true := by simp [k0]
  rw [if_neg k0', if_neg k0]
  by_cases k1 : s.2.2.2.2.2.1 = 1
  · have k1' : (s.2.2.2.2.2.1 == 1) = true := by simp [k1]
    rw [if_pos k1', if_pos k1, if_pos (apOk_s (by decide) (by decide))]
    have := dec_len' (u32_64 o.j1).2.1
    have := dec_len' (u32_64 o.j2).2.1
    have := dec_len' (u32_64 o.j3).2.1
    exact f_joinNl (by simp) (by rw [List.cons_append, Lib.join_length]; simp [Lib.lens]; omega)
  have k1' : ¬ (s.2.2.2.2.2.1 == 1) = true := by simp [k1]
  rw [if_neg k1', if_neg k1]
  by_cases k2 : s.2.2.2.2.2.1 = 2
  · have k2' : (s.2.2.2.2.2.1 == 2) = true := by simp [k2]
    have e : s.2.2.2.2.2.2.2.2.2.2.2.2.2.2 = Sg.view s := rfl
    rw [if_pos k2', if_pos k2, e, if_pos (apOk_s (by decide) (by decide))]
    have := dec_len' o.h
    have := itoa_len o.i
    exact f_joinNl (by simp) (by rw [List.cons_append, Lib.join_length]; simp [Lib.lens]; omega)
  have k2' : ¬ (s.2.2.2.2.2.1 == 2) = true := by simp [k2]
  rw [if_neg k2', if_neg k2]
  by_cases k3 : s.2.2.2.2.2.1 = 3
  · have k3' : (s.2.2.2.2.2.1 == 3) = true := by simp [k3]
    have e : s.2.2.2.2.2.2.2.2.2.2.2.2.2.1 = Sg.text s := rfl
    rw [if_pos k3', if_pos k3, e, if_pos (by simp [maxLen]; omega), if_pos (apOk_s (by decide) (by decide))]
    have := dec_len' o.h
    have := itoa_len o.i
    have := itoa_len o.k2
    have := dec_len' o.k3
    exact f_joinNl (by simp) (by rw [List.cons_append, Lib.join_length]; simp [Lib.lens]; omega)
  have k3' : ¬ (s.2.2.2.2.2.1 == 3) = true := by simp [k3]
  rw [if_neg k3', if_neg k3, if_pos (apOk_s (by decide) (by decide))]
  exact f_joinNl (by simp) (by rw [List.cons_append, Lib.join_length]; simp [Lib.lens]; omega)
theorem lineS_eq (s : S35.ty) : lineS s = Lib.itoa s.1 ++ 32 :: (Lib.itoa s.2.1 ++ 32 :: (Lib.decDigits s.2.2.1.toNat ++ 32 :: (Lib.itoa s.2.2.2.1 ++ 32 :: (Lib.decDigits s.2.2.2.2.1.toNat ++ (Lib.joinTail [32] (lineT s) ++ [10]))))) := by
  unfold lineS
  rw [List.cons_append, Lib.join_cons]
  simp [Lib.joinTail]
theorem lineS_len {s : S35.ty} (o : SgOk s) : (lineS s).length ≤ Sg.len s + 300 := by
  have l1 := itoa_len o.a
  have l2 := itoa_len o.b
  have l3 := dec_len' (u32_64 o.c).2.1
  have l4 := itoa_len o.d
  have l5 := dec_len' o.e
  have := itoa_len o.f
  have := dec_len' o.g
  have := dec_len' o.h
  have := itoa_len o.i
  have := dec_len' (u32_64 o.j1).2.1
  have := dec_len' (u32_64 o.j2).2.1
  have := dec_len' (u32_64 o.j3).2.1
  have := itoa_len o.k2
  have := dec_len' o.k3
  unfold Sg.len
  rw [lineS_eq]
  unfold lineT
  split
  · simp [Lib.joinTail]; omega
  split
  · simp [Lib.joinTail]; omega
  split
  · simp [Lib.joinTail]; omega
  split <;> simp [Lib.joinTail] <;> omega

set_option maxHeartbeats 2000000 in
theorem f_lineR {s : S35.ty} (o : SgOk s) (hl : Sg.len s ≤ 140737488351232) : F_congressref26_Line s = some (lineS s) := by
  have l1 := itoa_len o.a
  have l2 := itoa_len o.b
  have l3 := dec_len' (u32_64 o.c).2.1
  have l4 := itoa_len o.d
  have l5 := dec_len' o.e
  rw [lineS_eq]
  unfold Sg.len at hl
  unfold F_congressref26_Line lineT
  simp only [f_sig20 (i64_b o.a), f_sig20 (i64_b o.b), f_sig20 (i64_b o.d), f_sig20 (i64_b o.f), f_sig20 (i64_b o.i), f_sig20 (i64_b o.k2), f_dig20 (u32_64 o.c).2.2, f_dig20 (u32_64 o.j1).2.2, f_dig20 (u32_64 o.j2).2.2, f_dig20 (u32_64 o.j3).2.2, f_dig20 (u64_b o.e), f_dig20 (u64_b o.g), f_dig20 (u64_b o.h), f_dig20 (u64_b o.k3), Option.bind_some, (u32_64 o.c).1, (u32_64 o.j1).1, (u32_64 o.j2).1, (u32_64 o.j3).1]
  iterate 8 rw [if_pos (by simp [maxLen]; omega)]
  by_cases k0 : s.2.2.2.2.2.1 = 0
  · have k0' : (s.2.2.2.2.2.1 == 0) = true := by simp [k0]
    rw [if_pos k0', if_pos k0]
    have := itoa_len o.f
    have := dec_len' o.g
    have := dec_len' o.h
    have := itoa_len o.i
    repeat rw [if_pos (by simp [maxLen]; omega)]
    simp [Lib.joinTail]
  have k0' : ¬ (s.2.2.2.2.2.1 == 0) = true := by simp [k0]
  rw [if_neg k0', if_neg k0]
  by_cases k1 : s.2.2.2.2.2.1 = 1
  · have k1' : (s.2.2.2.2.2.1 == 1) = true := by simp [k1]
    rw [if_pos k1', if_pos k1]
    have := dec_len' (u32_64 o.j1).2.1
    have := dec_len' (u32_64 o.j2).2.1
    have := dec_len' (u32_64 o.j3).2.1
    repeat rw [if_pos (by simp [maxLen]; omega)]
    simp [Lib.joinTail]
  have k1' : ¬ (s.2.2.2.2.2.1 == 1) = true := by simp [k1]
  rw [if_neg k1', if_neg k1]
  by_cases k2 : s.2.2.2.2.2.1 = 2
  · have k2' : (s.2.2.2.2.2.1 == 2) = true := by simp [k2]
    have e : s.2.2.2.2.2.2.2.2.2.2.2.2.2.2 = Sg.view s := rfl
    rw [if_pos k2', if_pos k2, e]
    have := dec_len' o.h
    have := itoa_len o.i
    repeat rw [if_pos (by simp [maxLen]; omega)]
    simp [Lib.joinTail]
  have k2' : ¬ (s.2.2.2.2.2.1 == 2) = true := by simp [k2]
  rw [if_neg k2', if_neg k2]
  by_cases k3 : s.2.2.2.2.2.1 = 3
  · have k3' : (s.2.2.2.2.2.1 == 3) = true := by simp [k3]
    have e : s.2.2.2.2.2.2.2.2.2.2.2.2.2.1 = Sg.text s := rfl
    rw [if_pos k3', if_pos k3, e]
    have := dec_len' o.h
    have := itoa_len o.i
    have := itoa_len o.k2
    have := dec_len' o.k3
    repeat rw [if_pos (by simp [maxLen]; omega)]
    simp [Lib.joinTail]
  have k3' : ¬ (s.2.2.2.2.2.1 == 3) = true := by simp [k3]
  rw [if_neg k3', if_neg k3]
  repeat rw [if_pos (by simp [maxLen]; omega)]
  simp [Lib.joinTail]

/-! ### Texts -/
theorem loop_to {S τ : Type} {body : S → Option (S ⊕ τ)} (f : Nat → S) {n : Nat} {r : τ} (step : ∀ i, i < n → body (f i) = some (.inl (f (i + 1)))) (fin : body (f n) = some (.inr r)) : loopO body (f 0) = some r := by
  have key : ∀ m i, n - i ≤ m → i ≤ n → loopO body (f i) = some r := by
    intro m
    induction m with
    | zero => intro i h1 h2; obtain rfl : i = n := by omega
              exact loopO_end fin
    | succ m ih =>
      intro i h1 h2
      by_cases h : i = n
      · subst h; exact loopO_end fin
      · rw [loopO_go (step i (by omega))]; exact ih (i + 1) (by omega) (by omega)
  exact key n 0 (by omega) (Nat.zero_le _)
def texts (l : List S35.ty) : Str := (l.map lineS).flatten
def lensum (l : List S35.ty) : Nat := (l.map Sg.len).sum
theorem texts_len {l : List S35.ty} (h : ∀ s ∈ l, SgOk s) : (texts l).length ≤ lensum l + 300 * l.length := by
  induction l with
  | nil => simp [texts, lensum]
  | cons x l ih =>
    have h1 := lineS_len (h x (List.mem_cons_self ..))
    have h2 := ih fun s hs => h s (List.mem_cons_of_mem _ hs)
    simp only [texts, lensum, List.map_cons, List.flatten_cons, List.length_append, List.sum_cons, List.length_cons] at *
    omega
theorem texts_app (a b : List S35.ty) : texts (a ++ b) = texts a ++ texts b := by simp [texts]
theorem lensum_app (a b : List S35.ty) : lensum (a ++ b) = lensum a + lensum b := by simp [lensum]
theorem take_succ' {α : Type} {l : List α} {i : Nat} {d : α} (h : i < l.length) : l.take (i + 1) = l.take i ++ [l.getD i d] := by
  rw [List.take_add_one, List.getElem?_eq_getElem h]
  simp [List.getD, List.getElem?_eq_getElem h]
theorem lensum_mem {l : List S35.ty} {s : S35.ty} (h : s ∈ l) : Sg.len s ≤ lensum l := by
  induction l with
  | nil => cases h
  | cons x l ih =>
    simp only [lensum, List.map_cons, List.sum_cons]
    rcases List.mem_cons.1 h with rfl | h
    · omega
    · have := ih h; unfold lensum at this; omega
theorem lensum_take (l : List S35.ty) (n : Nat) : lensum (l.take n) ≤ lensum l := by
  have := lensum_app (l.take n) (l.drop n)
  rw [List.take_append_drop] at this
  omega
theorem getD_mem {α : Type} {l : List α} {i : Nat} {d : α} (h : i < l.length) : l.getD i d ∈ l := by
  simp [List.getD, List.getElem?_eq_getElem h]
theorem byI_app (a b : Str) : byI (a ++ b) = byI a ++ byI b := by simp [byI]
theorem byI_len (a : Str) : (byI a).length = a.length := by simp [byI]
theorem f_textT {l : List S35.ty} (o : ∀ s ∈ l, SgOk s) (h : lensum l ≤ 1048576) (hn : l.length ≤ 200) : F_trace_Text l = some (texts l) := by
  unfold F_trace_Text
  have key : loopO (F_trace_Text_b1 l) (0, []) = some (byI (texts l)) := by
    refine loop_to (f := fun i => ((i : Int), byI (texts (l.take i)))) (n := l.length) (fun i hi => ?_) ?_
    · unfold F_trace_Text_b1
      have hm := getD_mem (d := S35.dflt) hi
      have hle := lensum_mem hm
      have t1 := texts_len (l := l.take i) fun s hs => o s (List.mem_of_mem_take hs)
      have t2 := lensum_take l i
      have t3 := lineS_len (o _ hm)
      have t4 : (l.take i).length ≤ 200 := by simp; omega
      rw [if_pos (by simpa using hi), if_pos (by simpa using hi)]
      simp only [Int.toNat_natCast]
      rw [f_lineT (o _ hm) (by omega), Option.bind_some]
      unfold F_strings_Builder_WriteString F_strings_Builder_copyCheck
      simp only [Option.bind_some]
      rw [if_pos (by rw [byI_len]; omega)]
      simp only [Option.bind_some]
      rw [take_succ' (d := S35.dflt) hi, texts_app, byI_app, wr (by omega)]
      simp [texts]
    · unfold F_trace_Text_b1
      rw [if_neg (by simp), List.take_length]
  rw [key, Option.bind_some]
  unfold F_strings_Builder_String
  simp [byS_byI]
theorem f_textR {l : List S35.ty} (o : ∀ s ∈ l, SgOk s) (h : lensum l ≤ 1048576) (hn : l.length ≤ 200) : F_congressref26_Text l = some (texts l) := by
  unfold F_congressref26_Text
  have key : loopO (F_congressref26_Text_b1 l) ([], 0) = some (texts l) := by
    refine loop_to (f := fun i => (texts (l.take i), (i : Int))) (n := l.length) (fun i hi => ?_) ?_
    · unfold F_congressref26_Text_b1
      have hm := getD_mem (d := S35.dflt) hi
      have hle := lensum_mem hm
      have t1 := texts_len (l := l.take i) fun s hs => o s (List.mem_of_mem_take hs)
      have t2 := lensum_take l i
      have t3 := lineS_len (o _ hm)
      have t4 : (l.take i).length ≤ 200 := by simp; omega
      rw [if_pos (by simpa using hi), if_pos (by simpa using hi)]
      simp only [Int.toNat_natCast]
      rw [f_lineR (o _ hm) (by omega), Option.bind_some, if_pos (by show _ ≤ (9223372036854775807 : Nat); omega)]
      rw [take_succ' (d := S35.dflt) hi, texts_app, wr (by omega)]
      simp [texts]
    · unfold F_congressref26_Text_b1
      rw [if_neg (by simp), List.take_length]
  rw [key, Option.bind_some]
end Go.Proofs.YtlhbekiplnmolaaDoor
