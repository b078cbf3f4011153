/- Packets and counts as arguments. -/
import Derived.Test.YthapghhmeicbnaaDoorOpenF
import Derived.Test.YthapghhmeicbnaaDoorKP
namespace Go.Proofs.YthapghhmeicbnaaDoor
open Go.ChangeShapes Go.WideShapes Go.ChangeAt Go.RowKit
set_option maxRecDepth 20000

theorem fits_cons {k : Lk} {ks : List Lk} {vs : List Value} {ls : List Lit} (h : fits (k :: ks) vs = some ls) : ∃ v vs' x l', vs = v :: vs' ∧ k.lit v = some x ∧ fits ks vs' = some l' := by
  cases vs with
  | nil => simp [fits] at h
  | cons v vs =>
    simp only [fits, Option.bind_eq_some_iff, Option.map_eq_some_iff] at h
    obtain ⟨x, h1, r, h2, _⟩ := h
    exact ⟨v, vs, x, r, rfl, h1, h2⟩
theorem fits_end {vs : List Value} {ls : List Lit} (h : fits [] vs = some ls) : vs = [] := by
  cases vs with
  | nil => rfl
  | cons v vs => simp [fits] at h
theorem u32_of {v : Value} {x : Lit} (h : (Lk.i .u32).lit v = some x) : ∃ n, v = .int .u32 n ∧ U32 n := by
  cases v <;> simp [Lk.lit] at h
  obtain ⟨⟨rfl, hw⟩, rfl⟩ := h
  exact ⟨_, rfl, u32_wf.1 hw⟩
theorem bool_of {v : Value} {x : Lit} (h : Lk.b.lit v = some x) : ∃ b, v = .bool b := by
  cases v <;> simp [Lk.lit] at h
  exact ⟨_, rfl⟩
theorem fits_u {ks : List Lk} {vs : List Value} {ls : List Lit} (h : fits (.i .u32 :: ks) vs = some ls) : ∃ n vs' l', vs = .int .u32 n :: vs' ∧ U32 n ∧ fits ks vs' = some l' := by
  obtain ⟨v, vs', x, l', rfl, h1, h2⟩ := fits_cons h
  obtain ⟨n, rfl, hn⟩ := u32_of h1
  exact ⟨n, vs', l', rfl, hn, h2⟩
theorem fits_two {vs : List Value} {ls : List Lit} (h : fits [.i .u32, .i .u32] vs = some ls) : ∃ a b, vs = [.int .u32 a, .int .u32 b] ∧ U32 a ∧ U32 b := by
  obtain ⟨a, vs, ls, rfl, ha, h⟩ := fits_u h
  obtain ⟨b, vs, ls, rfl, hb, h⟩ := fits_u h
  rw [fits_end h]
  exact ⟨a, b, rfl, ha, hb⟩
theorem Id3.of_fit {vs : List Value} {ls : List Lit} (h : fits k3 vs = some ls) : ∃ x : Id3, x.Ok ∧ vs = x.list := by
  obtain ⟨a, vs, ls, rfl, ha, h⟩ := fits_u h
  obtain ⟨b, vs, ls, rfl, hb, h⟩ := fits_u h
  obtain ⟨c, vs, ls, rfl, hc, h⟩ := fits_u h
  rw [fits_end h]
  exact ⟨⟨a, b, c⟩, ⟨ha, hb, hc⟩, rfl⟩
theorem V8.of_fit {vs : List Value} {ls : List Lit} (h : fits k8 vs = some ls) : ∃ x : V8, x.Ok ∧ vs = x.vals := by
  obtain ⟨a, vs, ls, rfl, ha, h⟩ := fits_u h
  obtain ⟨b, vs, ls, rfl, hb, h⟩ := fits_u h
  obtain ⟨c, vs, ls, rfl, hc, h⟩ := fits_u h
  obtain ⟨d, vs, ls, rfl, hd, h⟩ := fits_u h
  obtain ⟨e, vs, ls, rfl, he, h⟩ := fits_u h
  obtain ⟨f, vs, ls, rfl, hf, h⟩ := fits_u h
  obtain ⟨g, vs, ls, rfl, hg, h⟩ := fits_u h
  obtain ⟨i, vs, ls, rfl, hi, h⟩ := fits_u h
  rw [fits_end h]
  exact ⟨⟨a, b, c, d, e, f, g, i⟩, ⟨ha, hb, hc, hd, he, hf, hg, hi⟩, rfl⟩
theorem fits_three {vs : List Value} {ls : List Lit} (h : fits [.b, .i .u32, .i .u32] vs = some ls) : ∃ (t : Bool) (a b : Int), vs = [.bool t, .int .u32 a, .int .u32 b] ∧ U32 a ∧ U32 b := by
  obtain ⟨v, vs, x, ls, rfl, h1, hh⟩ := fits_cons h
  obtain ⟨t, rfl⟩ := bool_of h1
  obtain ⟨a, b, rfl, ha, hb⟩ := fits_two hh
  exact ⟨t, a, b, rfl, ha, hb⟩
theorem fits_cut {ks js : List Lk} {vs : List Value} {ls : List Lit} (h : fits (ks ++ js) vs = some ls) : ∃ xs ys l1 l2, vs = xs ++ ys ∧ fits ks xs = some l1 ∧ fits js ys = some l2 := by
  obtain ⟨l1, l2, _, h1, h2⟩ := fits_split h
  exact ⟨_, _, l1, l2, (List.take_append_drop _ _).symm, h1, h2⟩
theorem Pkt.of_fit {cs : List Value} {ls : List Lit} (h : fits pktKinds cs = some ls) : ∃ p : Pkt, p.Fit ∧ cs = p.arr.toList := by
  unfold pktKinds at h
  obtain ⟨x0, r0, l0, m0, rfl, h0, g0⟩ := fits_cut h
  obtain ⟨x1, r1, l1, m1, rfl, h1, g1⟩ := fits_cut g0
  obtain ⟨x2, r2, l2, m2, rfl, h2, g2⟩ := fits_cut g1
  obtain ⟨x3, r3, l3, m3, rfl, h3, g3⟩ := fits_cut g2
  obtain ⟨x4, r4, l4, m4, rfl, h4, g4⟩ := fits_cut g3
  obtain ⟨x5, r5, l5, m5, rfl, h5, g5⟩ := fits_cut g4
  obtain ⟨x6, r6, l6, m6, rfl, h6, g6⟩ := fits_cut g5
  obtain ⟨x7, r7, l7, m7, rfl, h7, g7⟩ := fits_cut g6
  obtain ⟨x8, r8, l8, m8, rfl, h8, g8⟩ := fits_cut g7
  obtain ⟨x9, r9, l9, m9, rfl, h9, g9⟩ := fits_cut g8
  obtain ⟨a, b, rfl, ha, hb⟩ := fits_two h0
  obtain ⟨c, hc, rfl⟩ := Id3.of_fit h1
  obtain ⟨d, hd, rfl⟩ := V8.of_fit h2
  obtain ⟨e, he, rfl⟩ := V8.of_fit h3
  obtain ⟨f, hf, rfl⟩ := Id3.of_fit h4
  obtain ⟨g, hg, rfl⟩ := V8.of_fit h5
  obtain ⟨t, i, j, rfl, hi, hj⟩ := fits_three h6
  obtain ⟨n, hn, rfl⟩ := Fr.of_fit h7
  obtain ⟨o, ho, rfl⟩ := Fr.of_fit h8
  obtain ⟨u, v, rfl, hu, hv⟩ := fits_two h9
  obtain ⟨w, hw, rfl⟩ := Fr.of_fit g9
  exact ⟨⟨a, b, c, d, e, f, g, t, i, j, n, o, u, v, w⟩, ⟨⟨ha, hb, hc, hd, he, hf, hg, hi, hj, hn.pos, ho.pos, hu, hv, hw.pos⟩, hn, ho, hw⟩, rfl⟩
theorem open_packet {H : Type} {enc : TypeId × Value → H} {W : World} {b0 : Nat} {v : Value} {d : DataW H} {p : List MemPlace} {sp : Nat → Bool}
    (hv : Value.okWide Tryd.prog W .any b0 35 v) (h : DataW.Trod enc Tryd.prog W 0 sp true 35 v d p) : ∃ p : Pkt, p.Fit ∧ v = p.val := by
  obtain ⟨⟨cs⟩, rfl, hsz⟩ := okWide_struct Tryd.underlying35 hv
  obtain ⟨fuel, hf⟩ := h
  obtain ⟨ls, hl⟩ := fits_of_trod 6 _ _ fuel cs _ pkt_flat hf
  obtain ⟨q, hq, hc⟩ := Pkt.of_fit hl
  exact ⟨q, hq, by rw [Pkt.val, hc]⟩
theorem open_counts {H : Type} {enc : TypeId × Value → H} {W : World} {b0 : Nat} {v : Value} {d : DataW H} {p : List MemPlace} {sp : Nat → Bool}
    (hv : Value.okWide Tryd.prog W .any b0 27 v) (h : DataW.Trod enc Tryd.prog W 0 sp true 27 v d p) : ∃ x : V8, x.Ok ∧ v = .agg x.vals.toArray := by
  obtain ⟨⟨cs⟩, rfl, hsz⟩ := okWide_array Tryd.underlying27 hv
  obtain ⟨fuel, hf⟩ := h
  obtain ⟨ls, hl⟩ := fits_of_trod 3 _ _ fuel cs _ (show flat Tryd.prog 3 27 = some k8 by kernel_rfl) hf
  obtain ⟨x, hx, hc⟩ := V8.of_fit hl
  exact ⟨x, hx, by rw [hc]⟩
end Go.Proofs.YthapghhmeicbnaaDoor
