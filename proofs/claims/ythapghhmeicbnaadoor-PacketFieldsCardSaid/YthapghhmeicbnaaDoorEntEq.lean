/- Entries compared by '==' and '!='. -/
import Derived.Test.YthapghhmeicbnaaDoorMem
import Derived.Test.YthapghhmeicbnaaDoorFlat
namespace Go.Proofs.YthapghhmeicbnaaDoor
open Go.RowKit

structure Ent.Ok (e : Ent) : Prop where
  kind : (Lit.int .i64 e.kind).wf = true
  service : (Lit.int .i64 e.service).wf = true
  group : (Lit.int .i64 e.group).wf = true
  session : (Lit.int .u64 e.session).wf = true
  number : (Lit.int .u64 e.number).wf = true
  text : e.text.size ≤ maxLen

def Ent.lits (e : Ent) : List Lit := [.int .i64 e.kind, .int .i64 e.service, .int .i64 e.group, .int .u64 e.session, .int .u64 e.number, .string e.text.data.toList]
def entKinds : List Lk := [.i .i64, .i .i64, .i .i64, .i .u64, .i .u64, .s]

theorem Ent.lits_inj {e f : Ent} : e.lits = f.lits ↔ e = f := by
  constructor
  · intro h
    obtain ⟨a, b, c, d, g, ⟨⟨t⟩⟩⟩ := e
    obtain ⟨a', b', c', d', g', ⟨⟨t'⟩⟩⟩ := f
    simp [Ent.lits] at h
    obtain ⟨rfl, rfl, rfl, rfl, rfl, rfl⟩ := h
    rfl
  · rintro rfl; rfl

theorem Ent.fit {e : Ent} (h : e.Ok) : fits entKinds e.cells = some e.lits := by
  simp [fits, entKinds, Ent.cells, Ent.lits, Lk.lit, h.kind, h.service, h.group, h.session, h.number, h.text]

theorem Ent.of_fit {cs : List Value} {ls : List Lit} (h : fits entKinds cs = some ls) : ∃ e : Ent, e.Ok ∧ cs = e.cells := by
  have hl := fits_length h
  match cs, hl with
  | [c0, c1, c2, c3, c4, c5], _ =>
    simp only [fits, entKinds, Option.bind_eq_some_iff, Option.map_eq_some_iff] at h
    obtain ⟨x0, h0, _, ⟨x1, h1, _, ⟨x2, h2, _, ⟨x3, h3, _, ⟨x4, h4, _, ⟨x5, h5, _, _, _⟩, _⟩, _⟩, _⟩, _⟩, _⟩ := h
    have int_of : ∀ {k : IntKind} {v : Value} {x : Lit}, (Lk.i k).lit v = some x → ∃ n, v = .int k n ∧ (Lit.int k n).wf = true := by
      intro k v x h
      cases v <;> simp [Lk.lit] at h
      obtain ⟨⟨rfl, hw⟩, rfl⟩ := h
      exact ⟨_, rfl, hw⟩
    obtain ⟨n0, rfl, w0⟩ := int_of h0
    obtain ⟨n1, rfl, w1⟩ := int_of h1
    obtain ⟨n2, rfl, w2⟩ := int_of h2
    obtain ⟨n3, rfl, w3⟩ := int_of h3
    obtain ⟨n4, rfl, w4⟩ := int_of h4
    cases c5 <;> simp [Lk.lit] at h5
    exact ⟨⟨n0, n1, n2, n3, n4, _⟩, ⟨w0, w1, w2, w3, w4, h5.1⟩, rfl⟩

theorem ent_flat : flat Tryd.prog 2 30 = some entKinds := by kernel_rfl
theorem ent_guard : Tryd.prog.eqGuardType Tryd.prog.depth 30 = false := by kernel_rfl

theorem ent_equal {e f : Ent} (he : e.Ok) (hf : f.Ok) (w : World) :
    (Op.equalIn 10000 30 (.agg #[.int .i64 e.kind, .int .i64 e.service, .int .i64 e.group, .int .u64 e.session, .int .u64 e.number, .string e.text])
      (.agg #[.int .i64 f.kind, .int .i64 f.service, .int .i64 f.group, .int .u64 f.session, .int .u64 f.number, .string f.text])).run Tryd.prog w = .ok (decide (e = f)) w :=
  run_equal_flat (m := 2) (x := .agg e.cells.toArray) (y := .agg f.cells.toArray) (by kernel_rfl) (by decide) ent_flat (by kernel_rfl) (by kernel_rfl) (Ent.fit he) (Ent.fit hf) (by rw [decide_eq_true_iff, Ent.lits_inj]) w

end Go.Proofs.YthapghhmeicbnaaDoor
