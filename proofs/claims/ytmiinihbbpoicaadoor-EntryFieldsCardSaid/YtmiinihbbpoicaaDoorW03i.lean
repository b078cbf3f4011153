/- The walks of layer 3: EntryEncodes. -/
import Derived.Test.YtmiinihbbpoicaaDoorW03h
namespace Go.Proofs.YtmiinihbbpoicaaDoor
open Go.RowKit

/-- The six cells of an entry at block g, and that nothing else of what was there has changed. -/
def Box6 (w0 : World) (g : Nat) (v0 v1 v2 v3 v4 v5 : Value) (w : World) : Prop :=
  w.cell? ⟨g, 0, none⟩ = some v0 ∧ w.cell? ⟨g, 1, none⟩ = some v1 ∧ w.cell? ⟨g, 2, none⟩ = some v2 ∧ w.cell? ⟨g, 3, none⟩ = some v3 ∧ w.cell? ⟨g, 4, none⟩ = some v4 ∧ w.cell? ⟨g, 5, none⟩ = some v5 ∧ Below w0.heap.size w0 w
theorem box6 {w0 w w' : World} {g : Nat} {v0 v1 v2 v3 v4 v5 : Value} (hb : Below w.heap.size w w') (h : Box6 w0 g v0 v1 v2 v3 v4 v5 w) : Box6 w0 g v0 v1 v2 v3 v4 v5 w' := by
  obtain ⟨h0, h1, h2, h3, h4, h6, h5⟩ := h
  have c : ∀ {p : Addr} {v : Value}, w.cell? p = some v → w'.cell? p = some v := fun hp => (hb.cell (World.block_lt_of_cell? w _ hp)).trans hp
  exact ⟨c h0, c h1, c h2, c h3, c h4, c h6, bthen h5 hb⟩
theorem calls6 {f : Nat} {args : Array Value} {r : Ending} {w0 w : World} {g : Nat} {v0 v1 v2 v3 v4 v5 : Value} (hc : Calls Tryd.prog f args w fun e w' => e = r ∧ Below w.heap.size w w') (h : Box6 w0 g v0 v1 v2 v3 v4 v5 w) :
    Calls Tryd.prog f args w fun e w' => e = r ∧ Box6 w0 g v0 v1 v2 v3 v4 v5 w' := hc.mono fun _ _ ⟨he, hb⟩ => ⟨he, box6 hb h⟩

theorem rzero_any (w : World) : Calls Tryd.prog 14 #[.agg #[.int .i64 0, .int .i64 0, .int .i64 0, .int .u64 0, .int .u64 0, .string ⟨#[]⟩]] w fun r w' => r = .returned (.string (bs (List.replicate 28 0))) ∧ Below w.heap.size w w' := by
  have h := rbytes_any 0 0 0 0 0 [] w (by decide) (by decide) (by decide) (by decide) (by decide) (by decide)
  rw [show put 0 1 ++ put 0 1 ++ put 0 1 ++ put 0 2 ++ put 0 4 ++ tput [] 16 ++ [0, 0] = List.replicate 28 0 by decide] at h
  exact h

set_option maxHeartbeats 4000000 in
set_option maxRecDepth 10000 in
theorem entryEncodes_walk (e : Ent) (he : e.Ok) (w : World) : Calls Tryd.prog 3 #[e.val] w fun r w' => r = .returned (.bool true) ∧ Below w.heap.size w w' := by
  have h1 := fun w => encode_any e he w
  have h2 := fun w => rencode_any e he w
  have h3 := fun w => check_any e he w
  have h4 := fun w => rcheck_any e he w
  generalize e.enc = z at *
  generalize okCode e.may = c at *
  clear he
  obtain ⟨k, s, g, se, nu, t⟩ := e
  unfold Ent.val at *
  simp only at *
  have H1 := Lib.hid h1; have H2 := Lib.hid h2; have H3 := Lib.hid h3; have H4 := Lib.hid h4
  clear h1 h2 h3 h4
  go_enter Tryd.func3, Tryd.ntmps3
  go_wp2_with fail
  refine (H1.out _).mono ?_
  rintro r w1 ⟨rfl, hb1⟩
  have c0 := hb1.cell (p := ⟨w.heap.size, 0, none⟩) (by simp)
  have c1 := hb1.cell (p := ⟨w.heap.size, 1, none⟩) (by simp)
  have c2 := hb1.cell (p := ⟨w.heap.size, 2, none⟩) (by simp)
  have c3 := hb1.cell (p := ⟨w.heap.size, 3, none⟩) (by simp)
  have c4 := hb1.cell (p := ⟨w.heap.size, 4, none⟩) (by simp)
  have c5 := hb1.cell (p := ⟨w.heap.size, 5, none⟩) (by simp)
  simp at c0 c1 c2 c3 c4 c5
  have hb : Below w.heap.size w w1 := bthen ((Below.refl _ _).alloc (Nat.le_refl _) _) hb1
  clear hb1
  go_wp2_with fail
  refine (H2.out _).mono ?_
  rintro r w2 ⟨rfl, hb2⟩
  have hx : Box6 w w.heap.size (.int .i64 k) (.int .i64 s) (.int .i64 g) (.int .u64 se) (.int .u64 nu) (.string t) w2 := box6 hb2 ⟨c0, c1, c2, c3, c4, c5, hb⟩
  clear hb hb2 c0 c1 c2 c3 c4 c5
  obtain ⟨c0, c1, c2, c3, c4, c5, hb⟩ := hx
  go_wp2_with fail
  have hbd := bdrew hb
  go_region_held3 (fun w' => w'.cell? ⟨w.heap.size, 0, none⟩ = some (.int .i64 k) ∧ w'.cell? ⟨w.heap.size, 1, none⟩ = some (.int .i64 s) ∧ w'.cell? ⟨w.heap.size, 2, none⟩ = some (.int .i64 g) ∧ w'.cell? ⟨w.heap.size, 3, none⟩ = some (.int .u64 se) ∧ w'.cell? ⟨w.heap.size, 4, none⟩ = some (.int .u64 nu) ∧ w'.cell? ⟨w.heap.size, 5, none⟩ = some (.string t) ∧ Below w.heap.size w w')
    (first | (refine ⟨?_, ?_, ?_, ?_, ?_, ?_, ?_⟩ <;> assumption) | (refine ⟨?_, ?_, ?_, ?_, ?_, ?_, bdrew hb⟩ <;> simp [*]))
    (first
      | (go_at_call 10; refine (calls6 (fixed03 _) (w0 := w) (g := w.heap.size) (v0 := .int .i64 k) (v1 := .int .i64 s) (v2 := .int .i64 g) (v3 := .int .u64 se) (v4 := .int .u64 nu) (v5 := .string t) ⟨by assumption, by assumption, by assumption, by assumption, by assumption, by assumption, by assumption⟩).mono ?_; rintro r w' ⟨rfl, k0, k1, k2, k3, k4, k6, k5⟩)
      | (go_at_call 11; refine (calls6 (H3.out _) (w0 := w) (g := w.heap.size) (v0 := .int .i64 k) (v1 := .int .i64 s) (v2 := .int .i64 g) (v3 := .int .u64 se) (v4 := .int .u64 nu) (v5 := .string t) ⟨by assumption, by assumption, by assumption, by assumption, by assumption, by assumption, by assumption⟩).mono ?_; rintro r w' ⟨rfl, k0, k1, k2, k3, k4, k6, k5⟩)
      | (go_at_call 12; refine (calls6 (H4.out _) (w0 := w) (g := w.heap.size) (v0 := .int .i64 k) (v1 := .int .i64 s) (v2 := .int .i64 g) (v3 := .int .u64 se) (v4 := .int .u64 nu) (v5 := .string t) ⟨by assumption, by assumption, by assumption, by assumption, by assumption, by assumption, by assumption⟩).mono ?_; rintro r w' ⟨rfl, k0, k1, k2, k3, k4, k6, k5⟩)
      | (go_at_call 13; refine (calls6 (empty_any _) (w0 := w) (g := w.heap.size) (v0 := .int .i64 k) (v1 := .int .i64 s) (v2 := .int .i64 g) (v3 := .int .u64 se) (v4 := .int .u64 nu) (v5 := .string t) ⟨by assumption, by assumption, by assumption, by assumption, by assumption, by assumption, by assumption⟩).mono ?_; rintro r w' ⟨rfl, k0, k1, k2, k3, k4, k6, k5⟩)
      | (go_at_call 14; refine (calls6 (rzero_any _) (w0 := w) (g := w.heap.size) (v0 := .int .i64 k) (v1 := .int .i64 s) (v2 := .int .i64 g) (v3 := .int .u64 se) (v4 := .int .u64 nu) (v5 := .string t) ⟨by assumption, by assumption, by assumption, by assumption, by assumption, by assumption, by assumption⟩).mono ?_; rintro r w' ⟨rfl, k0, k1, k2, k3, k4, k6, k5⟩))
  go_wp2
  go_ret
  exact ⟨rfl, by assumption⟩

end Go.Proofs.YtmiinihbbpoicaaDoor
