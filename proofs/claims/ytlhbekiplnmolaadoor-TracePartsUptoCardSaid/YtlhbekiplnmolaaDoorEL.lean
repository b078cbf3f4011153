/- Arguments of a law, opened into shapes. -/
import Derived.Test.YtlhbekiplnmolaaDoorEI
import Derived.Test.YtlhbekiplnmolaaDoorRows
import Derived.WalkKit
import Derived.ProofKit
import Derived.OpenShut
import Derived.Deep.DeepHandedRow
import Derived.SizedLaws
import Derived.ChangeOld
import Derived.Deep.Slices
set_option linter.unusedVariables false
set_option linter.unusedSimpArgs false
namespace Go.Proofs.YtlhbekiplnmolaaDoor
open Go.ChangeShapes Go.WideShapes Go.ChangeAt Go.RowKit

theorem Tryd.own : ownKnob Tryd.prog.godebug = none := by kernel_rfl
theorem Tryd.laidOut : laidOutB Tryd.prog = true := by kernel_rfl

theorem trodAll_stays {H : Type} {enc : TypeId × Value → H} {P : Program} (hl : laidOutB P = true) {W W' : World} {sp' : Nat → Bool} :
    ∀ (ts : List TypeId) (vs : List Value) (ds : List (DataW H)) (ps : List MemPlace), (∀ t ∈ ts, P.readableRec t = true ∧ t < P.types.size) →
      DataW.TrodAll enc P W 0 (fun _ => true) true ts vs ds ps → (∀ p ∈ ps, W.sameAt W' p) → (∀ p ∈ ps, sp' p.block = true) → DataW.TrodAll enc P W' 0 sp' true ts vs ds ps
  | [], [], [], _, _, h, _, _ => h
  | [], _ :: _, _, _, _, h, _, _ => h.elim
  | [], [], _ :: _, _, _, h, _, _ => h.elim
  | _ :: _, [], _, _, _, h, _, _ => h.elim
  | _ :: _, _ :: _, [], _, _, h, _, _ => h.elim
  | t :: ts, v :: vs, d :: ds, ps, hr, h, hs, hp => by
    obtain ⟨p, q, h1, h2, rfl⟩ := h
    have ht := hr t (List.mem_cons_self ..)
    exact ⟨p, q, WideElems.Trod_stays hl ht.1 ht.2 h1 (fun x hx => hs x (List.mem_append_left _ hx)) (fun x hx => hp x (List.mem_append_left _ hx)),
      trodAll_stays hl ts vs ds q (fun u hu => hr u (List.mem_cons_of_mem _ hu)) h2 (fun x hx => hs x (List.mem_append_right _ hx)) (fun x hx => hp x (List.mem_append_right _ hx)), rfl⟩

theorem law_post {H : Type} {enc : TypeId × Value → H} {P : Program} {f : Func} {s : ChangeSpec} {apart fresh handsOn : Bool} {W W' : World} {args : Array Value} {ds gs : List (DataW H)} {before : List MemPlace} {tb : TypeId}
    (hl : laidOutB P = true) (hr : ∀ t ∈ f.params.toList, P.readableRec t = true ∧ t < P.types.size) (hrt : f.resultTypes = #[tb]) (htb : P.underlying tb = some .bool) (hvars : s.vars = [])
    (hW : DataW.Whole enc P f.params.toList s.vars apart W args.toList ds gs before)
    (hres : (s.fn H (ds ++ gs)).results = [.lit (.bool true)]) (hargs : (s.fn H (ds ++ gs)).args = ds) (hvs : (s.fn H (ds ++ gs)).vars = [])
    (hb : Below W.heap.size W W') : s.post enc P f apart fresh handsOn false W args (.bool true) W' := by
  have hW' := hW
  have hlt : ∀ p ∈ before, p.block < W.heap.size := fun p hp => hW.lt p hp
  obtain ⟨p, q, hA, hV, rfl, hfz, hnd⟩ := hW
  rw [hvars] at hV
  obtain ⟨rfl, rfl⟩ := trodVars_none hV
  refine ⟨ds, [], _, [], p, [], hW', ?_, ?_, ?_, hb.frame _, fun h => by cases h⟩
  · rw [hres, hrt]
    exact trodAll_mk1 (shut_bool htb true)
  · rw [hargs]
    exact trodAll_stays hl _ _ _ _ hr hA (fun x hx => hb.same (hlt x (by simp [hx]))) (fun x hx => by simpa using hlt x (by simp [hx]))
  · rw [hvs, hvars]; rfl


/-! ### What a value of a shape is at least -/
def Sh.ok : (s : Sh) → s.ty → Prop
  | .int k, x => k.has x
  | .str, x => List.length x ≤ maxLen
  | .prod a b, x => a.ok x.1 ∧ b.ok x.2
  | .st s, x => s.ok x
  | .arr n s, x => List.length x = n ∧ ∀ y ∈ (show List s.ty from x), s.ok y
  | .sl s, x => List.length x ≤ maxLen ∧ ∀ y ∈ (show List s.ty from x), s.ok y
  | _, _ => True
theorem RepL_all {α : Type} {R : List Value → α → Prop} {Q : α → Prop} (h : ∀ c x, R c x → Q x) : ∀ {vs : List Value} {xs : List α}, RepL R vs xs → ∀ x ∈ xs, Q x
  | vs, [], _, x, hx => by cases hx
  | vs, y :: xs, ⟨c, r, _, h1, h2⟩, x, hx => by
    rcases List.mem_cons.1 hx with rfl | hx
    · exact h c _ h1
    · exact RepL_all h h2 x hx
theorem rep_ok {P : Program} {φ : Nat → Value} {M : Fz} : ∀ {s : Sh} {cs : List Value} {x : s.ty}, RepC P φ s M cs x → s.ok x := by
  intro s
  induction s with
  | int k => intro cs x h; exact h.2
  | str => intro cs x h; exact h.2
  | prod a b iha ihb => intro cs x h; obtain ⟨c1, c2, _, h1, h2⟩ := h; exact ⟨iha h1, ihb h2⟩
  | st s ih => intro cs x h; exact ih (cs := cs) h
  | arr n s ih => intro cs x h; exact ⟨h.1, RepL_all (fun c y hc => ih hc) h.2⟩
  | sl s ih =>
    intro cs x h
    obtain ⟨A, n, cap, vs, _, h1, h2, _, h4⟩ := h
    exact ⟨by omega, RepL_all (fun c y hc => ih hc) h4⟩
  | _ => intro cs x _; trivial
theorem relV_ok {P : Program} {φ : Nat → Value} {M : Fz} {s : Sh} {x : s.ty} {v : Value} (h : RelV P M φ (.v s x) v) : s.ok x := by
  obtain ⟨_, cs, _, h⟩ := h
  exact rep_ok h
def memM (w : World) : Fz := fun g => match w.heap[g]? with
  | some (.cells c _ _) => some c
  | _ => none
theorem memM_over (w : World) (hg : GL (memM w)) : Over (memM w) w := ⟨fun g c h => (by
  unfold memM at h
  split at h
  · rename_i c' t fr e
    simp only [Option.some.injEq] at h
    subst h
    exact ⟨t, fr, e⟩
  · cases h), hg⟩
theorem cell_mem {w : World} {a : Addr} {v : Value} (h : w.cell? a = some v) : ∃ b o c, a = ⟨b, o, none⟩ ∧ memM w b = some c ∧ c[o]? = some v := by
  have hs := World.cell?_spot h
  obtain ⟨b, o, s⟩ := a
  simp only at hs
  subst hs
  unfold World.cell? at h
  split at h
  · rename_i c t fr e
    exact ⟨b, o, c, rfl, by simp [memM, e], by simpa using h⟩
  · cases h
/-- The tables as the beginning holds them. -/
theorem gl_of {w : World} {c : Array Value} {m : Int} (ht : Lib.TabIs Tryd.prog w "internal/strconv.uint64pow10" .u64 Lib.pow10Tab) (hm : w.var? Tryd.prog "internal/bytealg.MaxLen" = some c) (hm2 : c[0]? = some (.int .i64 m)) : GL (memM w) := by
  have hv : ∀ {name : String} {g : Nat} {c : Array Value}, Tryd.prog.globalNamed name = some g → w.var? Tryd.prog name = some c → memM w g = some c := by
    intro name g c h1 h2
    unfold World.var? at h2
    rw [h1] at h2
    exact h2
  refine ⟨fun p hp => ?_, fun g hg => ?_⟩
  · obtain rfl := List.mem_singleton.1 hp
    exact hv (by kernel_rfl) ht
  · obtain rfl := List.mem_singleton.1 hg
    exact ⟨c, m, hv (by kernel_rfl) hm, hm2⟩
theorem law_walk {P : Program} {k : FuncId} {l : List AVal} {us : List Value} {W : World} (hg : GL (memM W)) (h : Pure P k l (.v .bool true)) (hr : RelVs P (memM W) φ0 l us) : Calls P k us.toArray W fun e w' => e = .returned (.bool true) ∧ Below W.heap.size W w' := by
  refine (h.2 W (memM W) us (memM_over W hg) hr).mono ?_
  rintro e w' ⟨M', v, rfl, hb, _, _, _, _, cs, rfl, hc⟩
  simp only [RepC] at hc
  subst hc
  exact ⟨rfl, hb⟩

def opGo (P : Program) (F : TypeId → Sh → Bool) : Nat → List Field → Sh → Bool
  | off, [], .unit => true
  | off, [f], s => F f.type s && Nat.beq f.offset off && Nat.beq (P.cellsOf f.type) s.size
  | off, f :: fs, .prod a b => F f.type a && Nat.beq f.offset off && Nat.beq (P.cellsOf f.type) a.size && opGo P F (off + a.size) fs b
  | _, _, _ => false
def opSh (P : Program) : Nat → TypeId → Sh → Bool
  | 0, _, _ => false
  | d + 1, t, s => match P.underlying t, s with
    | some .bool, .bool => true
    | some (.int k), .int k' => decide (k' = k)
    | some .string, .str => true
    | some (.array n e), .arr m s' => Nat.beq n m && opSh P d e s' && Nat.beq (P.cellsOf e) s'.size && Nat.beq (P.cellsOf t) (n * s'.size)
    | some (.slice e), .sl s' => opSh P d e s' && s'.fixed && Nat.beq (P.cellsOf e) s'.size && Nat.blt 0 s'.size
    | some (.struct fs), .st s' => opGo P (opSh P d) 0 fs.toList s' && Nat.beq (P.cellsOf t) s'.size
    | _, _ => false

/-- How much a value of a shape holds, at most as its reading tells. -/
def Sh.bulk : (s : Sh) → s.ty → Nat
  | .int _, _ => 1
  | .bool, _ => 1
  | .str, x => List.length x + 1
  | .prod a b, x => a.bulk x.1 + b.bulk x.2
  | .st s, x => s.bulk x + 1
  | .arr _ s, x => (List.map s.bulk x).sum + 1
  | .sl s, x => (List.map s.bulk x).sum + 1
  | _, _ => 0
theorem bulkAll_sum {H : Type} : ∀ l : List (DataW H), Rows.uptoBulkAll l = (l.map Rows.uptoBulk).sum
  | [] => by simp [Rows.uptoBulkAll]
  | d :: r => by simp [Rows.uptoBulkAll, bulkAll_sum r]
theorem rows_of {α : Type} {R : List Value → α → Prop} {sz : Nat} {bk : α → Nat} : ∀ (n : Nat) (cs : List Value) (B : Nat → Nat), cs.length = n * sz → (∀ i, i < n → ∃ y, R ((cs.drop (i * sz)).take sz) y ∧ bk y ≤ B i) → ∃ xs : List α, xs.length = n ∧ RepL R cs xs ∧ (xs.map bk).sum ≤ ((List.range n).map B).sum
  | 0, cs, B, hl, _ => ⟨[], rfl, List.length_eq_zero_iff.1 (by simpa using hl), by simp⟩
  | n + 1, cs, B, hl, h => by
    obtain ⟨y, hy, hb⟩ := h 0 (by omega)
    have hl' : (cs.drop sz).length = n * sz := by rw [List.length_drop, hl, Nat.succ_mul]; omega
    obtain ⟨xs, h1, h2, h3⟩ := rows_of n (cs.drop sz) (fun i => B (i + 1)) hl' fun i hi => by
      obtain ⟨y, hy, hb⟩ := h (i + 1) (by omega)
      refine ⟨y, ?_, hb⟩
      rw [List.drop_drop, show sz + i * sz = (i + 1) * sz by rw [Nat.succ_mul]; omega]
      exact hy
    refine ⟨y :: xs, by simp [h1], ⟨cs.take sz, cs.drop sz, (List.take_append_drop _ _).symm, by simpa using hy, h2⟩, ?_⟩
    rw [List.range_succ_eq_map]
    simp only [List.map_cons, List.sum_cons, List.map_map]
    have e : (List.map (B ∘ Nat.succ) (List.range n)).sum = (List.map (fun i => B (i + 1)) (List.range n)).sum := rfl
    omega

section
variable {H : Type} {enc : TypeId × Value → H} {P : Program} {w : World} {spare : Nat → Bool} {held : Bool} {φ : Nat → Value}

theorem open_go {d : Nat} {cs : List Value} {m : Nat} (ih : ∀ (t : TypeId) (s : Sh) (fuel : Nat) (cs : List Value) (x : DataW H × List MemPlace), opSh P d t s = true → DataW.trod enc P w 0 spare held fuel t cs = some x → ∃ y, RepC P φ s (memM w) cs y ∧ s.bulk y ≤ Rows.uptoBulk x.1) :
    ∀ (fl : List Field) (xs : List (DataW H × List MemPlace)) (off : Nat) (s : Sh), opGo P (opSh P d) off fl s = true → xs.length = fl.length → (∀ (i : Nat) f, fl[i]? = some f → ∃ x, xs[i]? = some x ∧ DataW.trod enc P w 0 spare held m f.type ((cs.drop f.offset).take (P.cellsOf f.type)) = some x) → cs.length = off + s.size → ∃ y, RepC P φ s (memM w) (cs.drop off) y ∧ s.bulk y ≤ Rows.uptoBulkAll (xs.map (·.1))
  | [], xs, off, s, h, hx, hall, hl => by
    cases s <;> simp [opGo] at h
    simp [Sh.size] at hl
    refine ⟨(), ?_, Nat.zero_le _⟩
    show cs.drop off = []
    exact List.drop_eq_nil_of_le (by omega)
  | [f], xs, off, s, h, hxl, hall, hl => by
    have h' : (opSh P d f.type s && Nat.beq f.offset off && Nat.beq (P.cellsOf f.type) s.size) = true := by
      cases s <;> simpa [opGo] using h
    simp only [Bool.and_eq_true] at h'
    obtain ⟨⟨h1, h2⟩, h3⟩ := h'
    have h2 := Nat.eq_of_beq_eq_true h2
    have h3 := Nat.eq_of_beq_eq_true h3
    obtain ⟨x, hq, hx⟩ := hall 0 f rfl
    rw [h2, h3, List.take_of_length_le (by rw [List.length_drop]; omega)] at hx
    obtain ⟨y, k1, k2⟩ := ih _ _ _ _ _ h1 hx
    refine ⟨y, k1, Nat.le_trans k2 ?_⟩
    cases xs with
    | nil => cases hq
    | cons x' r =>
      obtain rfl : x' = x := Option.some.inj hq
      rw [List.map_cons, Rows.uptoBulkAll]
      omega
  | f :: g :: fs, xs, off, s, h, hxl, hall, hl => by
    cases s <;> simp [opGo] at h
    rename_i a b
    obtain ⟨⟨⟨h1, h2⟩, h3⟩, h4⟩ := h
    obtain ⟨x, hq, hx⟩ := hall 0 f rfl
    rw [h2, h3] at hx
    simp only [Sh.size] at hl
    cases xs with
    | nil => cases hq
    | cons x' r =>
      obtain rfl : x' = x := Option.some.inj hq
      obtain ⟨y1, k1, b1⟩ := ih _ _ _ _ _ h1 hx
      obtain ⟨y2, k2, b2⟩ := open_go ih (g :: fs) r (off + a.size) b h4 (by simpa using hxl) (fun i q hq => hall (i + 1) q hq) (by omega)
      refine ⟨(y1, y2), ⟨_, _, ?_, k1, k2⟩, ?_⟩
      · rw [← List.drop_drop, List.take_append_drop]
      · rw [List.map_cons, Rows.uptoBulkAll]
        show a.bulk y1 + b.bulk y2 ≤ _
        omega

theorem open_cells : ∀ (d : Nat) (t : TypeId) (s : Sh) (fuel : Nat) (cs : List Value) (x : DataW H × List MemPlace), opSh P d t s = true → DataW.trod enc P w 0 spare held fuel t cs = some x → ∃ y, RepC P φ s (memM w) cs y ∧ s.bulk y ≤ Rows.uptoBulk x.1 := by
  intro d
  induction d with
  | zero => intro t s fuel cs x h; simp [opSh] at h
  | succ d ih =>
    intro t s fuel cs x h ht
    simp only [opSh] at h
    split at h
    · rename_i hu
      obtain ⟨b, rfl, rfl⟩ := DataW.trod_bool hu ht
      exact ⟨b, rfl, by simp [Sh.bulk, Rows.uptoBulk]⟩
    · rename_i k k' hu
      simp only [decide_eq_true_eq] at h
      subst h
      obtain ⟨n, rfl, rfl, hw⟩ := DataW.trod_int hu ht
      refine ⟨n, ⟨rfl, ?_⟩, by simp [Sh.bulk, Rows.uptoBulk]⟩
      simpa [Lit.wf, IntKind.has] using hw
    · rename_i hu
      obtain ⟨b, rfl, rfl, hw⟩ := DataW.trod_string hu ht
      refine ⟨b.data.toList, ⟨by rw [bs_data], ?_⟩, by simp [Sh.bulk, Rows.uptoBulk]⟩
      rw [Array.length_toList]
      exact hw
    · rename_i n e m s' hu
      simp only [Bool.and_eq_true] at h
      obtain ⟨⟨⟨h1, h2⟩, h3⟩, h4⟩ := h
      have h1 := Nat.eq_of_beq_eq_true h1
      have h3 := Nat.eq_of_beq_eq_true h3
      have h4 := Nat.eq_of_beq_eq_true h4
      subst h1
      obtain ⟨xs, m, _, rfl, hlen, hxl, hx⟩ := DataW.trod_array hu ht
      obtain ⟨ys, k1, k2, k3⟩ := rows_of (R := RepC P φ s' (memM w)) (bk := s'.bulk) n cs (fun i => match xs[i]? with | some x => Rows.uptoBulk x.1 | none => 0) (by rw [hlen, h4]) fun i hi => by
        have h5 := hx i hi
        rw [h3, List.getElem?_eq_getElem (by omega)] at h5
        rw [List.getElem?_eq_getElem (by omega)]
        exact ih _ _ _ _ _ h2 h5
      refine ⟨ys, ⟨k1, k2⟩, ?_⟩
      have e : (List.range n).map (fun i => match xs[i]? with | some x => Rows.uptoBulk x.1 | none => 0) = (xs.map (·.1)).map Rows.uptoBulk := by
        apply List.ext_getElem (by simp [hxl])
        intro i q1 q2
        simp only [List.getElem_map, List.getElem_range]
        rw [List.getElem?_eq_getElem (by simpa using q2)]
      rw [e] at k3
      show (List.map s'.bulk ys).sum + 1 ≤ Rows.uptoBulk (.agg (xs.map (·.1)))
      rw [Rows.uptoBulk, bulkAll_sum]
      omega
    · rename_i e s' hu
      simp only [Bool.and_eq_true] at h
      obtain ⟨⟨⟨h1, h2⟩, h3⟩, h4⟩ := h
      have h3 := Nat.eq_of_beq_eq_true h3
      rw [Nat.blt_eq] at h4
      rcases Deep.open_slice hu ht with ⟨rfl, rfl⟩ | ⟨a, len, cap, m, n, Dn, Pl, rfl, hb, hl, hm, hmm, rfl, hi⟩
      · exact ⟨[], ⟨none, 0, 0, [], rfl, rfl, ⟨Nat.le_refl _, by simp [maxLen]⟩, Cl.nil _ _, rfl⟩, by simp [Sh.bulk, Rows.uptoBulk]⟩
      · have hlm : len ≤ m := by rw [hmm]; split <;> omega
        rcases Nat.eq_zero_or_pos len with rfl | hp
        · exact ⟨[], ⟨some a, 0, cap, [], rfl, rfl, ⟨Nat.zero_le _, hm⟩, Cl.nil _ _, rfl⟩, by simp [Sh.bulk, Rows.uptoBulk]⟩
        · rw [h3] at hi
          have each : ∀ i, i < len → ∃ cs', cs'.length = s'.size ∧ (∃ y, RepC P φ s' (memM w) cs' y ∧ s'.bulk y ≤ Rows.uptoBulk (Dn i)) ∧ ∀ j, j < s'.size → w.cell? ((a.add (i * s'.size)).add j) = cs'[j]? := by
            intro i hlt
            obtain ⟨cs', hc, hr⟩ := hi i (by omega)
            obtain ⟨-, hl0, hg⟩ := World.cells?_some hc
            exact ⟨cs', hl0, ih _ _ _ _ _ h1 hr, hg⟩
          obtain ⟨cs0, l0, -, g0⟩ := each 0 hp
          have g0 := g0 0 h4
          rw [List.getElem?_eq_getElem (by omega)] at g0
          have hs : a.spot = none := by simpa [Addr.add] using World.cell?_spot g0
          obtain ⟨b, o, sp⟩ := a
          simp only at hs
          subst hs
          obtain ⟨b', o', c, e1, e2, e3⟩ := cell_mem g0
          rw [addz, addz] at e1
          simp only [Addr.mk.injEq] at e1
          obtain ⟨rfl, rfl, _⟩ := e1
          have cellc : ∀ k, w.cell? ⟨b, k, none⟩ = c[k]? := by
            intro k
            unfold memM at e2
            split at e2
            · rename_i c' t' fr e4
              simp only [Option.some.injEq] at e2
              subst e2
              simp [World.cell?, e4]
            · cases e2
          have each' : ∀ i, i < len → ∃ cs', cs'.length = s'.size ∧ (∃ y, RepC P φ s' (memM w) cs' y ∧ s'.bulk y ≤ Rows.uptoBulk (Dn i)) ∧ ∀ j, j < s'.size → c[o + i * s'.size + j]? = cs'[j]? := by
            intro i hlt
            obtain ⟨cs', k1, k2, k3⟩ := each i hlt
            refine ⟨cs', k1, k2, fun j hj => ?_⟩
            rw [← k3 j hj, addz, addz, cellc]
          have hbig : o + len * s'.size ≤ c.size := by
            obtain ⟨cs', k1, _, k3⟩ := each' (len - 1) (by omega)
            have := k3 (s'.size - 1) (by omega)
            rw [List.getElem?_eq_getElem (by omega)] at this
            have := (Array.getElem?_eq_some_iff.1 this).1
            have e : (len - 1) * s'.size + s'.size = len * s'.size := by rw [← Nat.succ_mul]; congr 1; omega
            omega
          have hvl : ((c.toList.drop o).take (len * s'.size)).length = len * s'.size := by
            rw [List.length_take, List.length_drop]
            simp only [Array.length_toList]
            omega
          obtain ⟨ys, k1, k2, k3⟩ := rows_of (R := RepC P φ s' (memM w)) (bk := s'.bulk) len ((c.toList.drop o).take (len * s'.size)) (fun i => Rows.uptoBulk (Dn i)) hvl fun i hlt => by
            obtain ⟨cs', q1, ⟨y, q2, qb⟩, q3⟩ := each' i hlt
            refine ⟨y, ?_, qb⟩
            have hle : i * s'.size + s'.size ≤ len * s'.size := by rw [← Nat.succ_mul]; exact Nat.mul_le_mul_right _ hlt
            have : (((c.toList.drop o).take (len * s'.size)).drop (i * s'.size)).take s'.size = cs' := by
              apply List.ext_getElem?
              intro j
              by_cases hj : j < s'.size
              · rw [List.getElem?_take_of_lt hj, List.getElem?_drop, List.getElem?_take_of_lt (by omega), List.getElem?_drop, ← q3 j hj]
                simp [Nat.add_assoc]
              · rw [List.getElem?_eq_none (by rw [List.length_take]; omega), List.getElem?_eq_none (by omega)]
            rw [this]
            exact q2
          refine ⟨ys, ⟨some ⟨b, o, none⟩, len, cap, _, rfl, k1, ⟨hl, hm⟩, fun q hq => ⟨b, o, c, rfl, e2, ?_⟩, k2⟩, ?_⟩
          · rw [hvl] at hq
            rw [List.getElem?_take_of_lt hq, List.getElem?_drop]
            simp
          · show (List.map s'.bulk ys).sum + 1 ≤ Rows.uptoBulk (.slice ((List.range len).map Dn) _)
            rw [Rows.uptoBulk, bulkAll_sum, List.map_map]
            have e : (List.map (Rows.uptoBulk ∘ Dn) (List.range len)).sum = (List.map (fun i => Rows.uptoBulk (Dn i)) (List.range len)).sum := rfl
            omega
    · rename_i fs s' hu
      simp only [Bool.and_eq_true] at h
      obtain ⟨h1, h2⟩ := h
      have h2 := Nat.eq_of_beq_eq_true h2
      obtain ⟨xs, m, _, rfl, hlen, hxl, hx⟩ := DataW.trod_struct hu ht
      obtain ⟨y, k1, k2⟩ := open_go ih (m := m) (cs := cs) fs.toList xs 0 s' h1 (by rw [hxl]; simp) (fun i f hi => by
        rw [Array.getElem?_toList] at hi
        have h3 := hx i f hi
        have hlt : i < fs.size := (Array.getElem?_eq_some_iff.1 hi).1
        rw [List.getElem?_eq_getElem (by omega)] at h3
        exact ⟨_, List.getElem?_eq_getElem (by omega), h3⟩) (by omega)
      rw [List.drop_zero] at k1
      refine ⟨y, k1, ?_⟩
      show s'.bulk y + 1 ≤ Rows.uptoBulk (.agg (xs.map (·.1)))
      rw [Rows.uptoBulk]
      omega
    · cases h

/-- An argument as a value of its shape. -/
theorem open_shB {W : World} {b0 : Nat} {v : Value} {d : DataW H} {p : List MemPlace} {sp : Nat → Bool} {t : TypeId} {n : Nat} (s : Sh) (hs : opSh P (n + 1) t s = true) (hf : s.fixed = true) (hv : Value.okWide P W .any b0 t v) (h : DataW.Trod enc P W 0 sp true t v d p) : ∃ x : s.ty, RelV P (memM W) φ0 (.v s x) v ∧ s.bulk x ≤ Rows.uptoBulk d := by
  obtain ⟨fuel, hg⟩ := h
  obtain ⟨y, hy, hbk⟩ := open_cells (φ := φ0) (n + 1) t s fuel _ _ hs hg
  refine ⟨y, ⟨hf, _, ?_, hy⟩, hbk⟩
  have agg : (∃ cs : Array Value, v = .agg cs) → s.agg = true → v = mkV s v.cells.toList := by
    rintro ⟨cs, rfl⟩ ha
    simp [mkV, ha, Value.cells]
  have one : s.agg = false → (∀ cs : Array Value, v ≠ .agg cs) → v = mkV s v.cells.toList := by
    intro ha hne
    unfold mkV
    rw [ha]
    cases v <;> first | rfl | exact absurd rfl (hne _)
  cases hu : P.underlying t with
  | none => simp [opSh, hu] at hs
  | some td =>
    simp only [opSh, hu] at hs
    split at hs
    · rename_i h1; simp only [Option.some.injEq] at h1; subst h1
      refine one rfl fun cs e => ?_
      subst e
      simp [Value.okWide, hu, Cell.okWide, Cell.ok] at hv
    · rename_i h1; simp only [Option.some.injEq] at h1; subst h1
      refine one rfl fun cs e => ?_
      subst e
      simp [Value.okWide, hu, Cell.okWide, Cell.ok] at hv
    · rename_i h1; simp only [Option.some.injEq] at h1; subst h1
      refine one rfl fun cs e => ?_
      subst e
      simp [Value.okWide, hu, Cell.okWide, Cell.ok] at hv
    · rename_i h1; simp only [Option.some.injEq] at h1; subst h1
      simp only [Value.okWide, hu] at hv
      obtain ⟨cs, h1, h2, _⟩ := hv
      exact agg ⟨cs, h1⟩ rfl
    · rename_i h1; simp only [Option.some.injEq] at h1; subst h1
      obtain ⟨a, len, cap, rfl⟩ := okWide_slice hu hv
      rfl
    · rename_i h1; simp only [Option.some.injEq] at h1; subst h1
      simp only [Value.okWide, hu] at hv
      obtain ⟨cs, h1, h2, _⟩ := hv
      exact agg ⟨cs, h1⟩ rfl
    · cases hs
theorem open_sh {W : World} {b0 : Nat} {v : Value} {d : DataW H} {p : List MemPlace} {sp : Nat → Bool} {t : TypeId} {n : Nat} (s : Sh) (hs : opSh P (n + 1) t s = true) (hf : s.fixed = true) (hv : Value.okWide P W .any b0 t v) (h : DataW.Trod enc P W 0 sp true t v d p) : ∃ x : s.ty, RelV P (memM W) φ0 (.v s x) v :=
  let ⟨x, h1, _⟩ := open_shB s hs hf hv h
  ⟨x, h1⟩
/-- A slice that is an argument takes no more bytes than its row's weight allows. -/
theorem sized_sl {W : World} {sp : Nat → Bool} {t e : TypeId} {s : Sh} {x : List s.ty} {v : Value} {M : Fz} {φ : Nat → Value} {d : DataW H} {ps : List MemPlace} {ts : List TypeId} {ds : List (DataW H)} {j B : Nat}
    (hsz : (DataW.weightsEach P ts ds).all (· ≤ reachBytes) = true) (ht : ts[j]? = some t) (hd : ds[j]? = some d) (hu : P.underlying t = some (.slice e)) (hB : P.bytesOf e = B)
    (h : DataW.Trod enc P W 0 sp true t v d ps) (hr : RelV P M φ (.v (.sl s) x) v) : x.length * B ≤ 140737488351232 := by
  obtain ⟨_, cs, rfl, A, n, cap, vs, rfl, rfl, _⟩ := hr
  obtain ⟨fuel, hf⟩ := h
  rcases Deep.open_slice hu hf with ⟨hcs, _⟩ | ⟨a, len, cap', m, n, D, Pl, hcs, _, hl, _, hm, hx, _⟩
  · simp [mkV, Sh.agg, Value.cells] at hcs
    simp [hcs]
  · simp [mkV, Sh.agg, Value.cells] at hcs
    obtain ⟨_, rfl, _⟩ := hcs
    obtain ⟨hx, _⟩ := Prod.mk.inj hx
    subst hx
    have z := sized_slice hsz ht hd hu
    rw [hB, List.length_map, List.length_range] at z
    exact Nat.le_trans (Nat.mul_le_mul_right _ (Nat.le_add_right _ _)) z
/-- A text that is an argument. -/
theorem sized_tx {W : World} {sp : Nat → Bool} {t : TypeId} {x : Str} {v : Value} {M : Fz} {φ : Nat → Value} {d : DataW H} {ps : List MemPlace} {ts : List TypeId} {ds : List (DataW H)} {j : Nat}
    (hsz : (DataW.weightsEach P ts ds).all (· ≤ reachBytes) = true) (ht : ts[j]? = some t) (hd : ds[j]? = some d) (hu : P.underlying t = some .string)
    (h : DataW.Trod enc P W 0 sp true t v d ps) (hr : RelV P M φ (.v .str x) v) : x.length ≤ 140737488351232 := by
  obtain ⟨_, cs, rfl, rfl, _⟩ := hr
  obtain ⟨fuel, hf⟩ := h
  obtain ⟨b, hb, hx, _⟩ := DataW.trod_string hu hf
  simp [mkV, Sh.agg, Value.cells] at hb
  obtain ⟨hx, _⟩ := Prod.mk.inj hx
  subst hx
  have z := sized_string hsz ht hd
  rw [← hb] at z
  have z2 : x.length ≤ reachBytes := by simpa [bs] using z
  exact Nat.le_trans z2 (by decide)
end
end Go.Proofs.YtlhbekiplnmolaaDoor
