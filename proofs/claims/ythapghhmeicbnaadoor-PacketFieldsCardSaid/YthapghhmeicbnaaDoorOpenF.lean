/- Slices of plain elements, and frames, as arguments. -/
import Derived.Test.YthapghhmeicbnaaDoorOpenE
import Derived.Test.YthapghhmeicbnaaDoorKE
import Derived.Deep.Slices
namespace Go.Proofs.YthapghhmeicbnaaDoor
open Go.ChangeShapes Go.WideShapes Go.ChangeAt Go.RowKit
set_option maxRecDepth 20000

theorem open_rows {H : Type} {enc : TypeId × Value → H} {P : Program} {W : World} {b0 : Nat} {v : Value} {d : DataW H} {p : List MemPlace} {sp : Nat → Bool} {α : Type} [Inhabited α] {E : Enc α} {ok : α → Prop} {t e : TypeId} {ks : List Lk} {D : Nat}
    (ht : P.underlying t = some (.slice e)) (hsz : P.cellsOf e = E.sz) (h0 : 0 < E.sz) (hf : flat P D e = some ks) (hof : ∀ cs ls, fits ks cs = some ls → ∃ x : α, ok x ∧ cs = E.cells x)
    (hv : Value.okWide P W .any b0 t v) (h : DataW.Trod enc P W 0 sp true t v d p) : ∃ A c, ∃ l : List α, (∀ x ∈ l, ok x) ∧ Cells W A (E.row l) ∧ l.length ≤ maxLen ∧ v = .slice A l.length c := by
  obtain ⟨a, len, cap, rfl⟩ := okWide_slice ht hv
  obtain ⟨fuel, hg⟩ := h
  rcases Deep.open_slice ht hg with ⟨h1, h2⟩ | ⟨a', len', cap', m, n, Dn, Pl, h1, hb, hl, hm, hmm, hx, hi⟩
  · simp only [Value.cells, List.cons.injEq, Value.slice.injEq, and_true] at h1
    obtain ⟨rfl, rfl, rfl⟩ := h1
    exact ⟨none, 0, [], fun x hx => (by cases hx), Cells.nil _ _, Nat.zero_le _, rfl⟩
  · simp only [Value.cells, List.cons.injEq, Value.slice.injEq, and_true] at h1
    obtain ⟨rfl, rfl, rfl⟩ := h1
    have hlm : len ≤ m := by rw [hmm]; split <;> omega
    have each : ∀ i, i < len → ∃ x : α, ok x ∧ ∃ b o, some a' = some (⟨b, o, none⟩ : Addr) ∧ ∀ j, j < E.sz → W.cell? ⟨b, o + i * E.sz + j, none⟩ = (E.cells x)[j]? := by
      intro i hlt
      obtain ⟨cs', hc, hr⟩ := hi i (by omega)
      obtain ⟨ls, hls⟩ := fits_of_trod D e ks _ cs' _ hf hr
      obtain ⟨x, hox, rfl⟩ := hof _ _ hls
      rw [hsz] at hc
      have hcell := (World.cells?_some hc).2.2
      have key : ∀ j, j < E.sz → W.cell? ((a'.add (i * E.sz)).add j) = (E.cells x)[j]? := hcell
      have hs : a'.spot = none := by
        obtain ⟨cs0, hc0, -⟩ := hi 0 (by omega)
        rw [hsz] at hc0
        obtain ⟨-, hl0, g0⟩ := World.cells?_some hc0
        have g0 := g0 0 h0
        rw [List.getElem?_eq_getElem (show 0 < cs0.length by omega)] at g0
        simpa [Addr.add] using World.cell?_spot g0
      obtain ⟨b, o, s⟩ := a'
      simp only at hs
      subst hs
      refine ⟨x, hox, b, o, rfl, fun j hj => ?_⟩
      rw [← key j hj, Deep.add_add]
      unfold Addr.add
      split
      · rename_i e0
        rw [Nat.add_assoc, e0]; rfl
      · rw [Nat.add_assoc]
    obtain ⟨f, hfx⟩ := Deep.choose_lt each
    have hlen : ((List.range len).map f).length = len := by simp
    refine ⟨some a', cap, (List.range len).map f, ?_, ?_, by rw [hlen]; omega, by rw [hlen]⟩
    · intro x hx
      obtain ⟨i, hi, rfl⟩ := List.mem_map.1 hx
      exact (hfx i (List.mem_range.1 hi)).1
    · refine (cells_rd h0).2 fun i hi => ?_
      rw [hlen] at hi
      obtain ⟨b, o, hA, hc⟩ := (hfx i hi).2
      refine ⟨b, o, hA, fun j hj => ?_⟩
      rw [hc j hj]
      simp

theorem below_of_fn {P : Program} {f : FuncId} {args : Array Value} {v : Value} {w : World} (h : Fn P f args w fun u _ => u = v) : Calls P f args w fun e w' => e = .returned v ∧ Below w.heap.size w w' :=
  h.mono fun _ _ ⟨_, _, he, hs, hv⟩ => ⟨hv ▸ he, hs.below⟩
theorem str_mx {s : ByteArray} (h : s.size ≤ reachBytes) : s.data.toList.length ≤ 9223372036854775807 := by rw [data_len]; exact Nat.le_trans h (by decide)
instance : Inhabited Ent := ⟨.zero⟩

theorem Fr.of_fit {cs : List Value} {ls : List Lit} (h : fits frKinds cs = some ls) : ∃ f : Fr, f.Ok ∧ cs = f.arr.toList := by
  have hl := fits_length h
  unfold frKinds at h
  have e : entKinds.length = 6 := rfl
  obtain ⟨m4, l5, -, h, h5⟩ := fits_split h
  obtain ⟨m3, l4, -, h, h4⟩ := fits_split h
  obtain ⟨m2, l3, -, h, h3⟩ := fits_split h
  obtain ⟨m1, l2, -, h, h2⟩ := fits_split h
  obtain ⟨l0, l1, -, h0, h1⟩ := fits_split h
  obtain ⟨e0, o0, c0⟩ := Ent.of_fit h0
  obtain ⟨e1, o1, c1⟩ := Ent.of_fit h1
  obtain ⟨e2, o2, c2⟩ := Ent.of_fit h2
  obtain ⟨e3, o3, c3⟩ := Ent.of_fit h3
  obtain ⟨e4, o4, c4⟩ := Ent.of_fit h4
  obtain ⟨e5, o5, c5⟩ := Ent.of_fit h5
  refine ⟨⟨e0, e1, e2, e3, e4, e5⟩, ⟨o0, o1, o2, o3, o4, o5⟩, ?_⟩
  have key : ∀ (x : List Value) n, x = x.take n ++ x.drop n := fun x n => (List.take_append_drop n x).symm
  rw [key cs _, c5, key (cs.take _) _, c4, key ((cs.take _).take _) _, c3, key (((cs.take _).take _).take _) _, c2, key ((((cs.take _).take _).take _).take _) _, c1, c0]
  rfl

theorem okWide_array {P : Program} {w : World} {r : Reach} {base : Nat} {t e : TypeId} {n : Nat} {v : Value} (ht : P.underlying t = some (.array n e)) (h : Value.okWide P w r base t v) : ∃ cs, v = .agg cs ∧ cs.size = P.cellsOf t := by
  simp only [Value.okWide, ht] at h
  obtain ⟨cs, h1, h2, _⟩ := h
  exact ⟨cs, h1, h2⟩
theorem open_frame {H : Type} {enc : TypeId × Value → H} {W : World} {b0 : Nat} {v : Value} {d : DataW H} {p : List MemPlace} {sp : Nat → Bool}
    (hv : Value.okWide Tryd.prog W .any b0 33 v) (h : DataW.Trod enc Tryd.prog W 0 sp true 33 v d p) : ∃ f : Fr, f.Ok ∧ v = f.val := by
  obtain ⟨⟨cs⟩, rfl, hsz⟩ := okWide_array Tryd.underlying33 hv
  obtain ⟨fuel, hf⟩ := h
  obtain ⟨ls, hl⟩ := fits_of_trod 4 _ _ fuel cs _ fr_flat hf
  obtain ⟨f, ho, hc⟩ := Fr.of_fit hl
  exact ⟨f, ho, by rw [Fr.val, hc]⟩

end Go.Proofs.YthapghhmeicbnaaDoor
