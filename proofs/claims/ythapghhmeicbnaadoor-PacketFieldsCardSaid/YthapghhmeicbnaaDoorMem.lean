/- What a slice in memory holds, told as a list: any element type of plain cells. -/
import Derived.Test.YthapghhmeicbnaaDoorProg
import Derived.Test.YthapghhmeicbnaaDoorPlain
import Derived.WalkKit
import Derived.WalkSpells
import Derived.WalkLawsBesides
import Derived.Lib.Hide
import Derived.Laws.BytesArg
import Derived.ChangeKeysEq
import Derived.Laws.MakeOwn
namespace Go.Proofs.YthapghhmeicbnaaDoor
open Go.RowKit

/-- How an element lies in its cells. -/
structure Enc (α : Type) where
  cells : α → List Value
  sz : Nat
  len : ∀ x, (cells x).length = sz

def encI (k : IntKind) : Enc Int := ⟨fun n => [.int k n], 1, fun _ => rfl⟩
def encS : Enc ByteArray := ⟨fun s => [.string s], 1, fun _ => rfl⟩
def encB : Enc Bool := ⟨fun b => [.bool b], 1, fun _ => rfl⟩

/-- The cells of a list's elements, one behind the other. -/
def Enc.row {α : Type} (E : Enc α) (l : List α) : List Value := l.flatMap E.cells

theorem Enc.row_length {α : Type} (E : Enc α) (l : List α) : (E.row l).length = l.length * E.sz := by
  induction l with
  | nil => simp [Enc.row]
  | cons x l ih =>
    have : E.row (x :: l) = E.cells x ++ E.row l := rfl
    rw [this, List.length_append, ih, E.len, List.length_cons, Nat.succ_mul, Nat.add_comm]

theorem Enc.row_append {α : Type} (E : Enc α) (l m : List α) : E.row (l ++ m) = E.row l ++ E.row m := by simp [Enc.row]
theorem Enc.row_one {α : Type} (E : Enc α) (x : α) : E.row [x] = E.cells x := by simp [Enc.row]
theorem Enc.row_nil {α : Type} (E : Enc α) : E.row [] = [] := rfl

theorem Enc.row_get {α : Type} (E : Enc α) (l : List α) (i : Nat) (h : i < l.length) (j : Nat) (hj : j < E.sz) : (E.row l)[i * E.sz + j]? = (E.cells l[i])[j]? := by
  induction l generalizing i with
  | nil => simp at h
  | cons x l ih =>
    have e : E.row (x :: l) = E.cells x ++ E.row l := rfl
    cases i with
    | zero =>
      rw [e, List.getElem?_append_left (by rw [E.len]; omega)]
      simp
    | succ i =>
      rw [e, List.getElem?_append_right (by rw [E.len, Nat.succ_mul]; omega), E.len]
      have := ih i (by simpa using h)
      rw [show (i + 1) * E.sz + j - E.sz = i * E.sz + j by rw [Nat.succ_mul]; omega, this]
      simp

/-- The list that lies at A in w. -/
def Rd {α : Type} (E : Enc α) (w : World) (A : Option Addr) (l : List α) : Prop :=
  ∀ i (h : i < l.length), ∃ b o, A = some ⟨b, o, none⟩ ∧ ∀ j, j < E.sz → w.cell? ⟨b, o + i * E.sz + j, none⟩ = (E.cells l[i])[j]?

theorem Rd.nil {α : Type} (E : Enc α) (w : World) (A : Option Addr) : Rd E w A [] := fun i h => absurd h (Nat.not_lt_zero i)

theorem Rd.below {α : Type} {E : Enc α} {w w' : World} {A : Option Addr} {l : List α} (h : Rd E w A l) (hb : Below w.heap.size w w') : Rd E w' A l := by
  intro i hi
  obtain ⟨b, o, hA, hc⟩ := h i hi
  refine ⟨b, o, hA, fun j hj => ?_⟩
  have h1 := hc j hj
  have h2 : (E.cells l[i])[j]? = some ((E.cells l[i])[j]'(by rw [E.len]; exact hj)) := List.getElem?_eq_getElem _
  rw [h2] at h1 ⊢
  exact (hb.cell (World.block_lt_of_cell? w _ h1)).trans h1

theorem Rd.one {w : World} {k : IntKind} {A : Option Addr} {l : List Int} (h : Rd (encI k) w A l) (i : Nat) (hi : i < l.length) : ∃ b o, A = some ⟨b, o, none⟩ ∧ w.cell? ⟨b, o + i, none⟩ = some (.int k l[i]) := by
  obtain ⟨b, o, hA, hc⟩ := h i hi
  have := hc 0 Nat.one_pos
  exact ⟨b, o, hA, by simpa [encI] using this⟩

/-- A row of the call's own reads as its list. -/
theorem own_rd {α : Type} {E : Enc α} {w : World} {base n : Nat} {e : TypeId} {v : Value} {l : List α} (h : w.ownsRow base e E.sz v n (E.row l)) (hsz : 0 < E.sz) : l.length = n ∧ ∃ A c, v = .slice A n c ∧ n ≤ c ∧ Rd E w A l := by
  obtain ⟨h1, h2⟩ := h
  have hn : l.length = n := by
    rw [E.row_length] at h1
    exact Nat.eq_of_mul_eq_mul_right hsz h1
  refine ⟨hn, ?_⟩
  rcases h2 with ⟨rfl, rfl⟩ | ⟨g, cap, cur, rfl, hb, hg, hc, hm, hs, ht⟩
  · exact ⟨none, 0, rfl, Nat.le_refl _, fun i hi => by omega⟩
  · refine ⟨_, _, rfl, hc, fun i hi => ⟨g, 0, rfl, fun j hj => ?_⟩⟩
    rw [← E.row_get l i hi j hj, ← ht, Nat.zero_add]
    have hlt : i * E.sz + j < n * E.sz := by
      have : (i + 1) * E.sz ≤ n * E.sz := Nat.mul_le_mul_right _ (by omega)
      rw [Nat.succ_mul] at this
      omega
    rw [List.getElem?_take_of_lt hlt]
    simp [World.cell?, hg]

/-- What lay there before stands behind a row's growth. -/
theorem Rd.grown {α : Type} {E : Enc α} {w w' : World} {A : Option Addr} {l : List α} {row : Option Nat} (h : Rd E w A l) (hg : w.grownBy w' row) (hne : ∀ b o, A = some ⟨b, o, none⟩ → some b ≠ row) : Rd E w' A l := by
  intro i hi
  obtain ⟨b, o, hA, hc⟩ := h i hi
  refine ⟨b, o, hA, fun j hj => ?_⟩
  have h1 := hc j hj
  have h2 : (E.cells l[i])[j]? = some ((E.cells l[i])[j]'(by rw [E.len]; exact hj)) := List.getElem?_eq_getElem _
  rw [h2] at h1 ⊢
  exact (World.cell?_of_block (hg.block b (World.block_lt_of_cell? w _ h1) (hne b o hA))).trans h1

theorem Rd.take {α : Type} {E : Enc α} {w : World} {A : Option Addr} {l : List α} (h : Rd E w A l) (m : Nat) : Rd E w A (l.take m) := by
  intro i hi
  rw [List.length_take] at hi
  obtain ⟨b, o, hA, hc⟩ := h i (by omega)
  exact ⟨b, o, hA, fun j hj => by rw [hc j hj]; simp⟩

def Ent.cells (e : Ent) : List Value := [.int .i64 e.kind, .int .i64 e.service, .int .i64 e.group, .int .u64 e.session, .int .u64 e.number, .string e.text]
def encE : Enc Ent := ⟨Ent.cells, 6, fun _ => rfl⟩
def Ent.val (e : Ent) : Value := .agg #[.int .i64 e.kind, .int .i64 e.service, .int .i64 e.group, .int .u64 e.session, .int .u64 e.number, .string e.text]

theorem Rd.six {w : World} {A : Option Addr} {l : List Ent} (h : Rd encE w A l) (i : Nat) (hi : i < l.length) : ∃ b o, A = some ⟨b, o, none⟩ ∧
    w.cell? ⟨b, o + i * 6, none⟩ = some (.int .i64 l[i].kind) ∧ w.cell? ⟨b, o + i * 6 + 1, none⟩ = some (.int .i64 l[i].service) ∧ w.cell? ⟨b, o + i * 6 + 2, none⟩ = some (.int .i64 l[i].group) ∧
    w.cell? ⟨b, o + i * 6 + 3, none⟩ = some (.int .u64 l[i].session) ∧ w.cell? ⟨b, o + i * 6 + 4, none⟩ = some (.int .u64 l[i].number) ∧ w.cell? ⟨b, o + i * 6 + 5, none⟩ = some (.string l[i].text) := by
  obtain ⟨b, o, hA, hc⟩ := h i hi
  exact ⟨b, o, hA, hc 0 (by decide), hc 1 (by decide), hc 2 (by decide), hc 3 (by decide), hc 4 (by decide), hc 5 (by decide)⟩

/-- A block that is known whole. -/
theorem blk_cell {w : World} {g : Nat} {t : TypeId} {cs : Array Value} {fr : Nat × Nat} (h : w.heap[g]? = some (.cells cs t fr)) (i : Nat) : w.cell? ⟨g, i, none⟩ = cs[i]? := by simp [World.cell?, h]
theorem blk_free {w : World} {g : Nat} {t : TypeId} {cs : Array Value} (h : w.heap[g]? = some (.cells cs t (0, 0))) (i : Nat) : w.frozen? ⟨g, i, none⟩ = false := by simp [World.frozen?, h]
theorem blk_set {w : World} {g : Nat} {t : TypeId} {cs : Array Value} {fr : Nat × Nat} (h : w.heap[g]? = some (.cells cs t fr)) (i : Nat) (u : Value) : (w.setCell ⟨g, i, none⟩ u).heap[g]? = some (.cells (cs.setIfInBounds i u) t fr) := by
  simp [World.setCell, Array.getElem?_modify, h]
theorem blk_below {w w' : World} {B g : Nat} {o : Obj} (hb : Below B w w') (hg : g < B) (h : w.heap[g]? = some o) : w'.heap[g]? = some o := (hb.block g hg).trans h
theorem alloc_new (w : World) (o : Obj) : (w.alloc o).heap[w.heap.size]? = some o := by
  show (w.heap.push o)[w.heap.size]? = _
  simp
theorem blk_lt {w : World} {g : Nat} {o : Obj} (h : w.heap[g]? = some o) : g < w.heap.size := (Array.getElem?_eq_some_iff.1 h).1

def byteV (b : UInt8) : Value := .int .u8 ((b.toNat : Nat) : Int)
/-- New bytes, all 0. -/
def zeroBytes (m : Nat) : Array Value := (List.replicate m (byteV 0)).toArray
theorem make_bytes {P : Program} (w : World) {t e : TypeId} (ht : P.underlying t = some (.slice e)) (hi : (P.info? e).map (fun i => (i.zero, i.size, i.bytes)) = some (some (.int .u8 0), 1, 1)) (m : Nat) (hm : m ≤ 281474976710656) :
    (Instr.makeSlice t (.int .i64 m) (.int .i64 m)).run P w = .ok (.slice (some ⟨w.heap.size, 0, none⟩) m m) (w.alloc (.cells (zeroBytes m) e)) := by
  obtain ⟨i, h1, h2, h3, h4⟩ := info_parts hi
  have h := run_make w t e i (.int .u8 0) ht h1 h2 .i64 .i64 m m (by omega) (Int.le_refl _) (by rw [h4]; omega) (by omega)
  rw [h, h3, Nat.mul_one, Int.toNat_natCast]
  congr 3
  apply Array.ext
  · simp [size_madeCells, zeroBytes]
  · intro j h1 h2
    simp [madeCells, zeroBytes, byteV, Value.cells, Nat.mod_one]

/-- A part of an array behind a pointer. -/
theorem arr_slice {P : Program} {t e : TypeId} {n : Nat} {i : TypeInfo} (ht : P.underlying t = some (.array n e)) (hi : P.info? e = some i) (a : Addr) (l h : Nat) (h1 : l ≤ h) (h2 : h ≤ n) (w : World) :
    (Instr.sliceAt t (.pointer (some a)) (some (.int .i64 l)) (some (.int .i64 h)) none).run P w = .ok (.slice (some (if n = l then a else a.add (l * P.cellsOf e))) (h - l) (n - l)) w := by
  have e1 : ((h : Int).toNat) = h := Int.toNat_natCast h
  simp [Instr.sliceAt, run_underlying ht, Instr.sureAddr, Instr.sliceBounds, run_sliceBound, run_sizeOf w hi, h1, h2, e1]
theorem arr_slice_h {P : Program} {t e : TypeId} {n : Nat} {i : TypeInfo} (ht : P.underlying t = some (.array n e)) (hi : P.info? e = some i) (a : Addr) (h : Nat) (h2 : h ≤ n) (w : World) :
    (Instr.sliceAt t (.pointer (some a)) none (some (.int .i64 h)) none).run P w = .ok (.slice (some a) h n) w := by
  simp [Instr.sliceAt, run_underlying ht, Instr.sureAddr, Instr.sliceBounds, run_sliceBound, run_sizeOf w hi, h2, Addr.add]
theorem arr_slice_all {P : Program} {t e : TypeId} {n : Nat} {i : TypeInfo} (ht : P.underlying t = some (.array n e)) (hi : P.info? e = some i) (a : Addr) (w : World) :
    (Instr.sliceAt t (.pointer (some a)) none none none).run P w = .ok (.slice (some a) n n) w := by
  simp [Instr.sliceAt, run_underlying ht, Instr.sureAddr, Instr.sliceBounds, run_sizeOf w hi, Addr.add]

theorem data_len (s : ByteArray) : s.data.toList.length = s.size := by rw [Array.length_toList]; rfl

/-- Bytes in memory as a string. -/
theorem conv_bytes {P : Program} (w : World) {src dst e : TypeId} (hs : P.underlying src = some (.slice e)) (he : P.underlying e = some (.int .u8)) (hd : P.underlying dst = some .string) (b off cap : Nat) (l : List UInt8)
    (h : ∀ i (hi : i < l.length), w.cell? ⟨b, off + i, none⟩ = some (.int .u8 ((l[i].toNat : Nat) : Int))) : (convert src dst (.slice (some ⟨b, off, none⟩) l.length cap)).run P w = .ok (.string (bs l)) w := by
  have h1 := run_convert_bytes_arg w src e hs he b off l.length cap (l.map fun x => ((x.toNat : Nat) : Int)) (by simp) (fun i hi => by
    rw [h i hi, List.getD_eq_getElem?_getD]
    simp [hi]) dst hd
  have e1 : strOfNums (l.map fun x => ((x.toNat : Nat) : Int)) = bs l := by
    unfold strOfNums bs
    congr 2
    rw [List.map_map]
    conv => rhs; rw [← List.map_id l]
    apply List.map_congr_left
    intro a _
    simp
  rw [e1] at h1
  exact h1

attribute [simp, go_sem] bs_size bs_append bs_extract put_length
@[simp, go_sem] theorem bs_get (l : List UInt8) (i : Nat) (h : i < (bs l).size) : (bs l)[i] = l[i]'(by rw [bs_size] at h; exact h) := rfl
@[simp, go_sem] theorem bs_toList (l : List UInt8) : (bs l).toList = l := by rw [ByteArray.toList_eq]; rfl

/-- Only draws lie between the two worlds. -/
def Dr (w w' : World) : Prop := ∃ n, w' = w.drewN n
theorem Dr.refl (w : World) : Dr w w := ⟨0, rfl⟩
theorem Dr.one (w : World) (n : Nat) : Dr w (w.drewN n) := ⟨n, rfl⟩
theorem Dr.trans {w w1 w2 : World} (h : Dr w w1) (g : Dr w1 w2) : Dr w w2 := by
  obtain ⟨n, rfl⟩ := h
  obtain ⟨m, rfl⟩ := g
  exact ⟨n + m, by simp [World.drewN, Nat.add_assoc]⟩
theorem Dr.drewN {w w1 : World} (h : Dr w w1) (n : Nat) : Dr w (w1.drewN n) := h.trans ⟨n, rfl⟩
theorem Dr.drew {w w1 : World} (h : Dr w w1) : Dr w w1.drew := h.trans ⟨1, rfl⟩
theorem Dr.below {w w1 : World} (h : Dr w w1) (B : Nat) : Below B w w1 := by
  obtain ⟨n, rfl⟩ := h
  exact ⟨rfl, rfl, rfl, Nat.le_refl _, fun _ _ => rfl⟩

theorem Dr.below_of {B : Nat} {w w1 w2 : World} (h : Dr w1 w2) (hb : Below B w w1) : Below B w w2 := hb.trans (h.below B)

theorem ret_bool {a b : Bool} (h : a = b) : Ending.returned (.bool a) = .returned (.bool b) := by rw [h]
theorem ret_int {k : IntKind} {a b : Int} (h : a = b) : Ending.returned (.int k a) = .returned (.int k b) := by rw [h]
theorem ret_string {a b : ByteArray} (h : a = b) : Ending.returned (.string a) = .returned (.string b) := by rw [h]

theorem ret2 {a b a' b' : Value} (h1 : a = a') (h2 : b = b') : Ending.returned (.tuple #[a, b]) = .returned (.tuple #[a', b']) := by rw [h1, h2]
theorem ret3 {a b c a' b' c' : Value} (h1 : a = a') (h2 : b = b') (h3 : c = c') : Ending.returned (.tuple #[a, b, c]) = .returned (.tuple #[a', b', c']) := by rw [h1, h2, h3]
theorem v_int {k : IntKind} {a b : Int} (h : a = b) : Value.int k a = .int k b := by rw [h]
theorem v_string {a b : ByteArray} (h : a = b) : Value.string a = .string b := by rw [h]
theorem v_bool {a b : Bool} (h : a = b) : Value.bool a = .bool b := by rw [h]

/-- One behind the other. -/
theorem bthen {w w1 w2 : World} (h : Below w.heap.size w w1) (g : Below w1.heap.size w1 w2) : Below w.heap.size w w2 :=
  h.trans (g.mono h.size)

theorem bdrawn {B : Nat} {w w' : World} (h : Below B w w') (n : Nat) : Below B w (w'.drewN n) := ⟨h.os, h.tape, h.output, h.size, h.block⟩

end Go.Proofs.YthapghhmeicbnaaDoor
