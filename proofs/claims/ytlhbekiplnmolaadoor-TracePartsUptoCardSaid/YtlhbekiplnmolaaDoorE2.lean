/- The machine's side, told once: what is known of slots and of memory. -/
import Derived.Test.YtlhbekiplnmolaaDoorE1
set_option linter.unusedVariables false
set_option linter.unusedSimpArgs false
namespace Go.Proofs.YtlhbekiplnmolaaDoor
open Go.RowKit

inductive AVal where
  | v (s : Sh) (x : s.ty)
  | ptr (L : Nat) (p : Path) (off : Nat)
  | row (L : Nat)
  | sub (L sz lo n : Nat)
  | fp (s : Sh) (x : s.ty)
  | clo (f : FuncId) (caps : List AVal)
  | tup (l : List AVal)
  | nilp
  | undef

inductive AItem where
  | var (T : TypeId) (s : Sh) (x : s.ty)
  | row (e : TypeId) (s : Sh) (x : List s.ty)
  | mp (T : TypeId) (k v : Sh) (x : List (k.ty × v.ty))

abbrev AEnv := List (Nat × AVal)
abbrev AStore := List (Nat × AItem)

def look {α : Type} : List (Nat × α) → Nat → Option α
  | [], _ => none
  | (t, v) :: ρ, s => if Nat.beq t s then some v else look ρ s

theorem look_mem {α : Type} : ∀ {l : List (Nat × α)} {t : Nat} {v : α}, look l t = some v → (t, v) ∈ l
  | (s, u) :: l, t, v, h => by
    simp only [look] at h
    split at h
    · rename_i e
      have := Nat.eq_of_beq_eq_true e
      simp only [Option.some.injEq] at h
      subst this h
      exact List.mem_cons_self ..
    · exact List.mem_cons_of_mem _ (look_mem h)

def blkOf : Value → Option Nat
  | .pointer (some a) => some a.block
  | .slice (some a) _ _ => some a.block
  | _ => none

mutual
def RelV (P : Program) (M : Fz) (φ : Nat → Value) : AVal → Value → Prop
  | .v s x, u => s.fixed = true ∧ ∃ cs, u = mkV s cs ∧ RepC P φ s M cs x
  | .ptr L _ off, u => ∃ g, blkOf (φ L) = some g ∧ u = .pointer (some ⟨g, off, none⟩)
  | .row L, u => u = φ L ∧ u.oneCell' = true
  | .sub L sz lo n, u => ∃ A m c, φ L = .slice A m c ∧ lo + n ≤ c ∧ c ≤ maxLen ∧ ∃ B, u = .slice B n (c - lo) ∧ (c ≠ lo → B = A.map (·.add (lo * sz))) ∧ (lo = 0 → B = A)
  | .fp s x, u => s.fixed = true ∧ ∃ g off cs, u = .pointer (some ⟨g, off, none⟩) ∧ Cl M (some ⟨g, off, none⟩) cs ∧ RepC P φ s M cs x
  | .clo f l, u => ∃ us : List Value, u = .func (.func f) #[] us.toArray ∧ RelVs P M φ l us
  | .tup l, u => ∃ us : List Value, u = .tuple us.toArray ∧ RelVs P M φ l us
  | .nilp, u => u = .pointer none
  | .undef, u => u = undef
def RelVs (P : Program) (M : Fz) (φ : Nat → Value) : List AVal → List Value → Prop
  | [], us => us = []
  | α :: l, us => ∃ u r, us = u :: r ∧ RelV P M φ α u ∧ RelVs P M φ l r
end

/-- A map's entries, in the order in which they came. -/
def RepM (P : Program) (φ : Nat → Value) (M : Fz) (k v : Sh) : List MapEntry → List (k.ty × v.ty) → Nat → Prop
  | [], [], _ => True
  | e :: es, y :: ys, n => (∃ ck cv, e.key = mkV k ck ∧ RepC P φ k M ck y.1 ∧ e.val = mkV v cv ∧ RepC P φ v M cv y.2 ∧ e.born = n) ∧ RepM P φ M k v es ys (n + 1)
  | _, _, _ => False
theorem RepM.mono {P : Program} {φ φ' : Nat → Value} {M M' : Fz} {k v : Sh} (hk : ∀ c x, RepC P φ k M c x → RepC P φ' k M' c x) (hv : ∀ c x, RepC P φ v M c x → RepC P φ' v M' c x) : ∀ {es : List MapEntry} {ys : List (k.ty × v.ty)} {n : Nat}, RepM P φ M k v es ys n → RepM P φ' M' k v es ys n
  | [], [], _, _ => trivial
  | e :: es, y :: ys, n, ⟨⟨ck, cv, h1, h2, h3, h4, h5⟩, h6⟩ => ⟨⟨ck, cv, h1, hk _ _ h2, h3, hv _ _ h4, h5⟩, RepM.mono hk hv h6⟩
  | [], _ :: _, _, h => h.elim
  | _ :: _, [], _, h => h.elim

theorem RepM.imp {P : Program} {φ φ' : Nat → Value} {M M' : Fz} {k v : Sh} (hk : ∀ c x, RepC P φ k M c x → RepC P φ' k M' c x) : ∀ {es : List MapEntry} {ys : List (k.ty × v.ty)} {n : Nat}, (∀ y ∈ ys, ∀ c, RepC P φ v M c y.2 → RepC P φ' v M' c y.2) → RepM P φ M k v es ys n → RepM P φ' M' k v es ys n
  | [], [], _, _, _ => trivial
  | e :: es, y :: ys, n, hv, ⟨⟨ck, cv, h1, h2, h3, h4, h5⟩, h6⟩ => ⟨⟨ck, cv, h1, hk _ _ h2, h3, hv y (List.mem_cons_self ..) _ h4, h5⟩, RepM.imp hk (fun y hy => hv y (List.mem_cons_of_mem _ hy)) h6⟩
  | [], _ :: _, _, _, h => h.elim
  | _ :: _, [], _, _, h => h.elim

/-- What an item says: its handle, its block. -/
def Held (P : Program) (M : Fz) (φ : Nat → Value) (w : World) (u : Value) (o : Option Nat) : AItem → Prop
  | .var T s x => s.fixed = true ∧ ∃ g c, u = .pointer (some ⟨g, 0, none⟩) ∧ o = some g ∧ w.heap[g]? = some (.cells c T (0, 0)) ∧ RepC P φ s M c.toList x
  | .row e s x => s.fixed = true ∧ ∃ A cap, u = .slice A x.length cap ∧ ((o = none ∧ x = [] ∧ cap = 0 ∧ A = none) ∨
      ∃ g c, o = some g ∧ A = some ⟨g, 0, none⟩ ∧ w.heap[g]? = some (.cells c e (0, 0)) ∧ x.length ≤ cap ∧ cap ≤ maxLen ∧ c.size = cap * s.size ∧ RepC P φ (.lst s) M (c.toList.take (x.length * s.size)) x)

  | .mp T k v x => (k.fixed = true ∧ v.fixed = true ∧ k.pers = true ∧ (v.pers = true ∨ v = .ref)) ∧ ∃ g es, u = .map (some g) ∧ o = some g ∧ w.heap[g]? = some (.map es es.size) ∧ RepM P φ M k v es.toList x 0

/-- Where a call begins: the world, what of it is frozen, the blocks that it may write, the handles of the labels that it was given. -/
structure Base (n0 : Nat) where
  w : World
  M : Fz
  E : List Nat
  φ0 : Nat → Value
  ok : Over M w

structure BelowX (E : List Nat) (n : Nat) (w w' : World) : Prop where
  os : w'.os = w.os
  tape : w'.tape = w.tape
  output : w'.output = w.output
  size : w.heap.size ≤ w'.heap.size
  block : ∀ k, k < n → k ∉ E → w'.heap[k]? = w.heap[k]?

theorem BelowX.refl (E : List Nat) (n : Nat) (w : World) : BelowX E n w w := ⟨rfl, rfl, rfl, Nat.le_refl _, fun _ _ _ => rfl⟩
theorem BelowX.trans {E : List Nat} {n : Nat} {a b c : World} (h : BelowX E n a b) (k : BelowX E n b c) : BelowX E n a c :=
  ⟨k.os.trans h.os, k.tape.trans h.tape, k.output.trans h.output, Nat.le_trans h.size k.size, fun i hi he => (k.block i hi he).trans (h.block i hi he)⟩

structure Core (P : Program) {n0 : Nat} (b : Base n0) (M : Fz) (φ : Nat → Value) (ξ : Nat → Option Nat) (H : AStore) (w : World) : Prop where
  le : b.M.le M
  same : ∀ g, g < b.w.heap.size → M g = b.M g
  over : Over M w
  below : BelowX b.E b.w.heap.size b.w w
  items : ∀ L it, (L, it) ∈ H → Held P M φ w (φ L) (ξ L) it
  feet : ∀ L it g, (L, it) ∈ H → ξ L = some g → (b.w.heap.size ≤ g ∨ g ∈ b.E) ∧ M g = none
  sep : ∀ L L' it it' g, (L, it) ∈ H → (L', it') ∈ H → ξ L = some g → ξ L' = some g → L = L'
  nd : (H.map Prod.fst).Nodup
  keep : ∀ L, L < n0 → φ L = b.φ0 L

def EnvR (P : Program) (M : Fz) (φ : Nat → Value) (ρ : AEnv) (tmps : Array Value) : Prop := ∀ t α, look ρ t = some α → ∃ v, tmps[t]? = some v ∧ RelV P M φ α v

def St (P : Program) {n0 : Nat} (b : Base n0) (ρ : AEnv) (H : AStore) (tmps : Array Value) (w : World) : Prop := ∃ M φ ξ, Core P b M φ ξ H w ∧ EnvR P M φ ρ tmps

/-! ### Labels that something names -/
def Sh.labs : (s : Sh) → s.ty → List Nat
  | .ref, x => [x]
  | .oref, x => [x]
  | .prod a b, x => a.labs x.1 ++ b.labs x.2
  | .st s, x => s.labs x
  | .arr _ s, x => if s.pers then [] else List.flatMap s.labs x
  | .lst s, x => if s.pers then [] else List.flatMap s.labs x
  | _, _ => []

mutual
def AVal.labs : AVal → List Nat
  | .v s x => if s.pers then [] else s.labs x
  | .ptr L _ _ => [L]
  | .row L => [L]
  | .sub L _ _ _ => [L]
  | .fp s x => if s.pers then [] else s.labs x
  | .clo _ l => AVal.labsL l
  | .tup l => AVal.labsL l
  | _ => []
def AVal.labsL : List AVal → List Nat
  | [] => []
  | α :: l => α.labs ++ AVal.labsL l
end

def AItem.labs : AItem → List Nat
  | .var _ s x => if s.pers then [] else s.labs x
  | .row _ s x => if s.pers then [] else List.flatMap s.labs x
  | .mp _ _ v x => if v.pers then [] else List.flatMap (fun y => v.labs y.2) x

theorem RepL.imp {α : Type} {R R' : List Value → α → Prop} : ∀ {vs : List Value} {xs : List α}, (∀ c x, x ∈ xs → R c x → R' c x) → RepL R vs xs → RepL R' vs xs
  | vs, [], _, e => e
  | vs, x :: xs, h, ⟨c, r, e, h1, h2⟩ => ⟨c, r, e, h c x (List.mem_cons_self ..) h1, h2.imp fun c y hy => h c y (List.mem_cons_of_mem _ hy)⟩

theorem rep_labs {P : Program} {φ φ' : Nat → Value} : ∀ {s : Sh} {M : Fz} {cs : List Value} {x : s.ty}, (s.fixed = true) → (∀ L ∈ s.labs x, φ' L = φ L) → RepC P φ s M cs x → RepC P φ' s M cs x := by
  intro s
  induction s with
  | prod a b iha ihb =>
    intro M cs x hf hp h
    simp only [Sh.fixed, Bool.and_eq_true] at hf
    obtain ⟨c1, c2, rfl, h1, h2⟩ := h
    exact ⟨c1, c2, rfl, iha hf.1 (fun L hL => hp L (List.mem_append_left _ hL)) h1, ihb hf.2 (fun L hL => hp L (List.mem_append_right _ hL)) h2⟩
  | st s ih => intro M cs x hf hp h; exact ih hf hp h
  | arr n s ih =>
    intro M cs x hf hp h
    cases hs : s.pers with
    | true => exact rep_pers (s := .arr n s) hs h
    | false => exact ⟨h.1, h.2.imp fun c y hy hc => ih hf (fun L hL => hp L (by simp only [Sh.labs, hs]; exact List.mem_flatMap.2 ⟨y, hy, hL⟩)) hc⟩
  | lst s ih => intro M cs x hf; simp [Sh.fixed] at hf
  | sl s ih =>
    intro M cs x hf hp h
    simp only [Sh.fixed, Bool.and_eq_true] at hf
    exact rep_pers (s := .sl s) hf.2 h
  | ref => intro M cs x _ hp h; simp only [RepC] at h ⊢; rw [hp x (List.mem_singleton.2 rfl)]; exact h
  | oref => intro M cs x _ hp h; simp only [RepC] at h ⊢; rw [hp x (List.mem_singleton.2 rfl)]; exact h
  | fn a b iha ihb =>
    intro M cs x hf hp h
    simp only [Sh.fixed, Bool.and_eq_true] at hf
    exact rep_pers (s := .fn a b) (by simp [Sh.pers, hf.2]) h
  | _ => intro M cs x _ _ h; exact h

mutual
theorem relV_labs {P : Program} {M : Fz} {φ φ' : Nat → Value} : ∀ {α : AVal} {u : Value}, (∀ L ∈ α.labs, φ' L = φ L) → RelV P M φ α u → RelV P M φ' α u
  | .v s x, u, hp, h => by
    obtain ⟨h1, cs, h2, h3⟩ := h
    refine ⟨h1, cs, h2, ?_⟩
    cases hs : s.pers with
    | true => exact rep_pers hs h3
    | false => exact rep_labs h1 (fun L hL => hp L (by simpa [AVal.labs, hs] using hL)) h3
  | .ptr L p off, u, hp, h => by
    obtain ⟨g, h1, h2⟩ := h
    exact ⟨g, by rw [hp L (by simp [AVal.labs])]; exact h1, h2⟩
  | .row L, u, hp, h => by
    obtain ⟨h1, h2⟩ := h
    exact ⟨by rw [hp L (by simp [AVal.labs])]; exact h1, h2⟩
  | .sub L sz lo n, u, hp, h => by
    obtain ⟨A, m, c, h1, h2⟩ := h
    exact ⟨A, m, c, by rw [hp L (by simp [AVal.labs])]; exact h1, h2⟩
  | .fp s x, u, hp, h => by
    obtain ⟨h1, g, off, cs, h2, h3, h4⟩ := h
    refine ⟨h1, g, off, cs, h2, h3, ?_⟩
    cases hs : s.pers with
    | true => exact rep_pers hs h4
    | false => exact rep_labs h1 (fun L hL => hp L (by simpa [AVal.labs, hs] using hL)) h4
  | .clo f l, u, hp, h => by
    obtain ⟨us, h1, h2⟩ := h
    exact ⟨us, h1, relVs_labs (fun L hL => hp L (by simpa [AVal.labs] using hL)) h2⟩
  | .tup l, u, hp, h => by
    obtain ⟨us, h1, h2⟩ := h
    exact ⟨us, h1, relVs_labs (fun L hL => hp L (by simpa [AVal.labs] using hL)) h2⟩
  | .nilp, u, _, h => h
  | .undef, u, _, h => h
theorem relVs_labs {P : Program} {M : Fz} {φ φ' : Nat → Value} : ∀ {l : List AVal} {us : List Value}, (∀ L ∈ AVal.labsL l, φ' L = φ L) → RelVs P M φ l us → RelVs P M φ' l us
  | [], us, _, h => h
  | α :: l, us, hp, h => by
    obtain ⟨u, r, h1, h2, h3⟩ := h
    exact ⟨u, r, h1, relV_labs (fun L hL => hp L (by simp [AVal.labsL, hL])) h2, relVs_labs (fun L hL => hp L (by simp [AVal.labsL, hL])) h3⟩
end

mutual
theorem relV_mono {P : Program} {M M' : Fz} {φ : Nat → Value} (e : M.le M') : ∀ {α : AVal} {u : Value}, RelV P M φ α u → RelV P M' φ α u
  | .v s x, u, h => by obtain ⟨h1, cs, h2, h3⟩ := h; exact ⟨h1, cs, h2, rep_mono e h3⟩
  | .ptr L p off, u, h => h
  | .row L, u, h => h
  | .sub _ _ _ _, u, h => h
  | .fp s x, u, h => by obtain ⟨h1, g, off, cs, h2, h3, h4⟩ := h; exact ⟨h1, g, off, cs, h2, h3.mono e, rep_mono e h4⟩
  | .clo f l, u, h => by obtain ⟨us, h1, h2⟩ := h; exact ⟨us, h1, relVs_mono e h2⟩
  | .tup l, u, h => by obtain ⟨us, h1, h2⟩ := h; exact ⟨us, h1, relVs_mono e h2⟩
  | .nilp, u, h => h
  | .undef, u, h => h
theorem relVs_mono {P : Program} {M M' : Fz} {φ : Nat → Value} (e : M.le M') : ∀ {l : List AVal} {us : List Value}, RelVs P M φ l us → RelVs P M' φ l us
  | [], us, h => h
  | α :: l, us, h => by obtain ⟨u, r, h1, h2, h3⟩ := h; exact ⟨u, r, h1, relV_mono e h2, relVs_mono e h3⟩
end

theorem EnvR.mono {P : Program} {M M' : Fz} {φ : Nat → Value} {ρ : AEnv} {tmps : Array Value} (h : EnvR P M φ ρ tmps) (e : M.le M') : EnvR P M' φ ρ tmps := fun t α ht => by
  obtain ⟨v, h1, h2⟩ := h t α ht
  exact ⟨v, h1, relV_mono e h2⟩
def envLabs (ρ : AEnv) : List Nat := ρ.flatMap fun x => x.2.labs
theorem EnvR.labs {P : Program} {M : Fz} {φ φ' : Nat → Value} {ρ : AEnv} {tmps : Array Value} (h : EnvR P M φ ρ tmps) (e : ∀ L ∈ envLabs ρ, φ' L = φ L) : EnvR P M φ' ρ tmps := fun t α ht => by
  obtain ⟨v, h1, h2⟩ := h t α ht
  exact ⟨v, h1, relV_labs (fun L hL => e L (List.mem_flatMap.2 ⟨_, look_mem ht, hL⟩)) h2⟩

theorem held_labs {P : Program} {M : Fz} {φ φ' : Nat → Value} {w : World} {u : Value} {o : Option Nat} : ∀ {it : AItem}, (∀ L ∈ it.labs, φ' L = φ L) → Held P M φ w u o it → Held P M φ' w u o it
  | .var T s x, hp, h => by
    obtain ⟨h1, g, c, h2, h3, h4, h5⟩ := h
    refine ⟨h1, g, c, h2, h3, h4, ?_⟩
    cases hs : s.pers with
    | true => exact rep_pers hs h5
    | false => exact rep_labs h1 (fun L hL => hp L (by simpa [AItem.labs, hs] using hL)) h5
  | .row e s x, hp, h => by
    obtain ⟨h1, A, cap, h2, h3⟩ := h
    refine ⟨h1, A, cap, h2, ?_⟩
    rcases h3 with h3 | ⟨g, c, h3, h4, h5, h6, h7, h8, h9⟩
    · exact .inl h3
    · refine .inr ⟨g, c, h3, h4, h5, h6, h7, h8, ?_⟩
      cases hs : s.pers with
      | true => exact rep_pers (s := .lst s) hs h9
      | false => exact RepL.imp (fun c y hy hc => rep_labs h1 (fun L hL => hp L (by simp only [AItem.labs, hs]; exact List.mem_flatMap.2 ⟨y, hy, hL⟩)) hc) h9
  | .mp T k v x, hp, h => by
    obtain ⟨h1, g, es, h2, h3, h4, h5⟩ := h
    refine ⟨h1, g, es, h2, h3, h4, h5.imp (fun _ _ => rep_pers h1.2.2.1) (fun y hy c hc => ?_)⟩
    cases hs : v.pers with
    | true => exact rep_pers hs hc
    | false => exact rep_labs h1.2.1 (fun L hL => hp L (by simp only [AItem.labs, hs]; exact List.mem_flatMap.2 ⟨y, hy, hL⟩)) hc

theorem held_kept {P : Program} {M M' : Fz} {φ : Nat → Value} {w w' : World} {u : Value} {o : Option Nat} (e : M.le M') : ∀ {it : AItem}, Held P M φ w u o it → (∀ g, o = some g → w'.heap[g]? = w.heap[g]?) → Held P M' φ w' u o it
  | .var T s x, h, hk => by
    obtain ⟨h1, g, c, h2, h3, h4, h5⟩ := h
    exact ⟨h1, g, c, h2, h3, (hk g h3).trans h4, rep_mono e h5⟩
  | .row t s x, h, hk => by
    obtain ⟨h1, A, cap, h2, h3⟩ := h
    refine ⟨h1, A, cap, h2, ?_⟩
    rcases h3 with h3 | ⟨g, c, h3, h4, h5, h6, h7, h8, h9⟩
    · exact .inl h3
    · exact .inr ⟨g, c, h3, h4, (hk g h3).trans h5, h6, h7, h8, rep_mono (s := .lst s) e h9⟩
  | .mp T k v x, h, hk => by
    obtain ⟨h1, g, es, h2, h3, h4, h5⟩ := h
    exact ⟨h1, g, es, h2, h3, (hk g h3).trans h4, h5.mono (fun _ _ => rep_mono e) (fun _ _ => rep_mono e)⟩

theorem held_lt {P : Program} {M : Fz} {φ : Nat → Value} {w : World} {u : Value} {o : Option Nat} : ∀ {it : AItem}, Held P M φ w u o it → ∀ g, o = some g → g < w.heap.size
  | .var T s x, h, g, hg => by
    obtain ⟨h1, g', c, h2, h3, h4, h5⟩ := h
    obtain rfl := Option.some.inj (h3.symm.trans hg)
    exact (Array.getElem?_eq_some_iff.1 h4).1
  | .row t s x, h, g, hg => by
    obtain ⟨h1, A, cap, h2, h3⟩ := h
    rcases h3 with h3 | ⟨g', c, h3, h4, h5, _⟩
    · rw [h3.1] at hg; cases hg
    · obtain rfl := Option.some.inj (h3.symm.trans hg)
      exact (Array.getElem?_eq_some_iff.1 h5).1
  | .mp T k v x, h, g, hg => by
    obtain ⟨h1, g', es, h2, h3, h4, h5⟩ := h
    obtain rfl := Option.some.inj (h3.symm.trans hg)
    exact (Array.getElem?_eq_some_iff.1 h4).1
end Go.Proofs.YtlhbekiplnmolaaDoor
