/- The walks of layer 3: an entry's bytes. -/
import Derived.Test.YthapghhmeicbnaaDoorW03a
import Derived.Deep.RegionHeld3
namespace Go.Proofs.YthapghhmeicbnaaDoor
open Go.RowKit

@[simp, go_sem] theorem putZ_1 (n : Nat) : putZ n 1 = put n 1 := rfl
@[simp, go_sem] theorem putZ_2 (n : Nat) : putZ n 2 = put n 2 := rfl
@[simp, go_sem] theorem putZ_4 (n : Nat) : putZ n 4 = put n 4 := rfl
theorem bdrew {B : Nat} {w w' : World} (h : Below B w w') : Below B w w'.drew := ⟨h.os, h.tape, h.output, h.size, h.block⟩

/-- The five cells of an entry's numbers at block g, and that nothing else of what was there has changed. -/
theorem box_keep {w0 w w' : World} {g : Nat} {v0 v1 v2 v3 v4 : Value} (hb : Below w.heap.size w w')
    (h : w.cell? ⟨g, 0, none⟩ = some v0 ∧ w.cell? ⟨g, 1, none⟩ = some v1 ∧ w.cell? ⟨g, 2, none⟩ = some v2 ∧ w.cell? ⟨g, 3, none⟩ = some v3 ∧ w.cell? ⟨g, 4, none⟩ = some v4 ∧ Below w0.heap.size w0 w) :
    w'.cell? ⟨g, 0, none⟩ = some v0 ∧ w'.cell? ⟨g, 1, none⟩ = some v1 ∧ w'.cell? ⟨g, 2, none⟩ = some v2 ∧ w'.cell? ⟨g, 3, none⟩ = some v3 ∧ w'.cell? ⟨g, 4, none⟩ = some v4 ∧ Below w0.heap.size w0 w' := by
  obtain ⟨h0, h1, h2, h3, h4, h5⟩ := h
  have c : ∀ {p : Addr} {v : Value}, w.cell? p = some v → w'.cell? p = some v := fun hp => (hb.cell (World.block_lt_of_cell? w _ hp)).trans hp
  exact ⟨c h0, c h1, c h2, c h3, c h4, bthen h5 hb⟩

theorem rput_box (w0 : World) (g : Nat) (v0 v1 v2 v3 v4 : Value) (n : Nat) (m : Int) (w : World) (hn : n < 18446744073709551616)
    (h : w.cell? ⟨g, 0, none⟩ = some v0 ∧ w.cell? ⟨g, 1, none⟩ = some v1 ∧ w.cell? ⟨g, 2, none⟩ = some v2 ∧ w.cell? ⟨g, 3, none⟩ = some v3 ∧ w.cell? ⟨g, 4, none⟩ = some v4 ∧ Below w0.heap.size w0 w) :
    Calls Tryd.prog 47 #[.int .u64 n, .int .i64 m] w fun e w' => e = .returned (.string (bs (putZ n m))) ∧
      (w'.cell? ⟨g, 0, none⟩ = some v0 ∧ w'.cell? ⟨g, 1, none⟩ = some v1 ∧ w'.cell? ⟨g, 2, none⟩ = some v2 ∧ w'.cell? ⟨g, 3, none⟩ = some v3 ∧ w'.cell? ⟨g, 4, none⟩ = some v4 ∧ Below w0.heap.size w0 w') :=
  (rput_all n m w hn).mono fun _ _ ⟨he, hb⟩ => ⟨he, box_keep hb h⟩

set_option maxHeartbeats 4000000 in
set_option maxRecDepth 10000 in
theorem rbytes_any (k s g se nu : Nat) (t : List UInt8) (w : World) (h0 : k < 256) (h1 : s < 256) (h2 : g < 256) (h3 : se < 65536) (h4 : nu < 4294967296) (h5 : t.length ≤ 16) :
    Calls Tryd.prog 61 #[.agg #[.int .i64 k, .int .i64 s, .int .i64 g, .int .u64 se, .int .u64 nu, .string (bs t)]] w fun r w' =>
      r = .returned (.string (bs (put k 1 ++ put s 1 ++ put g 1 ++ put se 2 ++ put nu 4 ++ tput t 16 ++ [0, 0]))) ∧ Below w.heap.size w w' := by
  have HT := Lib.hid (fun w => rputText_yes (bs t) 16 w (by rw [bs_size]; omega) (by decide))
  have tl : (tput t 16).length = 17 := tput_length (by omega)
  go_enter Tryd.func61, Tryd.ntmps61
  go_wp2_with fail
  refine (HT.out _).mono ?_
  rintro e w1 ⟨rfl, hb1⟩
  have c0 := hb1.cell (p := ⟨w.heap.size, 0, none⟩) (by simp)
  have c1 := hb1.cell (p := ⟨w.heap.size, 1, none⟩) (by simp)
  have c2 := hb1.cell (p := ⟨w.heap.size, 2, none⟩) (by simp)
  have c3 := hb1.cell (p := ⟨w.heap.size, 3, none⟩) (by simp)
  have c4 := hb1.cell (p := ⟨w.heap.size, 4, none⟩) (by simp)
  have hb : Below w.heap.size w w1 := bthen ((Below.refl _ _).alloc (Nat.le_refl _) _) hb1
  simp at c0 c1 c2 c3 c4
  clear hb1
  go_wp2_with fail
  rw [bs_list]
  have e0 : IntKind.u64.wrap (k : Int) = (k : Int) := by rw [wrap_u64]; omega
  have e1 : IntKind.u64.wrap (s : Int) = (s : Int) := by rw [wrap_u64]; omega
  have e2 : IntKind.u64.wrap (g : Int) = (g : Int) := by rw [wrap_u64]; omega
  have hbd := bdrew hb
  go_region_held3 (fun w' => w'.cell? ⟨w.heap.size, 0, none⟩ = some (.int .i64 k) ∧ w'.cell? ⟨w.heap.size, 1, none⟩ = some (.int .i64 s) ∧ w'.cell? ⟨w.heap.size, 2, none⟩ = some (.int .i64 g) ∧ w'.cell? ⟨w.heap.size, 3, none⟩ = some (.int .u64 se) ∧ w'.cell? ⟨w.heap.size, 4, none⟩ = some (.int .u64 nu) ∧ Below w.heap.size w w')
    (first | (refine ⟨?_, ?_, ?_, ?_, ?_, ?_⟩ <;> assumption) | (refine ⟨?_, ?_, ?_, ?_, ?_, bdrew hb⟩ <;> simp [*]))
    (first | (go_at_call 47; refine (rput_box w w.heap.size (.int .i64 k) (.int .i64 s) (.int .i64 g) (.int .u64 se) (.int .u64 nu) _ _ _ ?_ ⟨by assumption, by assumption, by assumption, by assumption, by assumption, by assumption⟩).mono ?_; (omega); rintro e w' ⟨rfl, k0, k1, k2, k3, k4, k5⟩))
  go_wp2
  go_ret
  exact ⟨ret_string (by show bs _ ++ bs [0, 0] = _; simp only [bs_append, List.append_assoc]), by assumption⟩

theorem put_box (w0 : World) (g : Nat) (v0 v1 v2 v3 v4 : Value) (n : Nat) (m : Int) (w : World) (hn : n < 18446744073709551616)
    (h : w.cell? ⟨g, 0, none⟩ = some v0 ∧ w.cell? ⟨g, 1, none⟩ = some v1 ∧ w.cell? ⟨g, 2, none⟩ = some v2 ∧ w.cell? ⟨g, 3, none⟩ = some v3 ∧ w.cell? ⟨g, 4, none⟩ = some v4 ∧ Below w0.heap.size w0 w) :
    Calls Tryd.prog 43 #[.int .u64 n, .int .i64 m] w fun e w' => e = .returned (.string (bs (putZ n m))) ∧
      (w'.cell? ⟨g, 0, none⟩ = some v0 ∧ w'.cell? ⟨g, 1, none⟩ = some v1 ∧ w'.cell? ⟨g, 2, none⟩ = some v2 ∧ w'.cell? ⟨g, 3, none⟩ = some v3 ∧ w'.cell? ⟨g, 4, none⟩ = some v4 ∧ Below w0.heap.size w0 w') :=
  (put_all n m w hn).mono fun _ _ ⟨he, hb⟩ => ⟨he, box_keep hb h⟩

/-- What Encode answers. -/
def Ent.enc (e : Ent) : List UInt8 := if e.may = true then e.bytes else []

theorem encode_no (e : Ent) (he : e.Ok) (w : World) (hm : e.may = false) :
    Calls Tryd.prog 59 #[e.val] w fun r w' => r = .returned (.tuple #[.string (bs []), .int .i64 30]) ∧ Below w.heap.size w w' := by
  have hc := fun w => check_any e he w
  rw [hm] at hc
  have HC := Lib.hid hc
  clear hm he hc
  obtain ⟨k, s, g, se, nu, t⟩ := e
  unfold Ent.val at *
  simp only at *
  go_enter Tryd.func59, Tryd.ntmps59
  go_wp2_with fail
  refine (HC.out _).mono ?_
  rintro r w1 ⟨rfl, hb1⟩
  go_wp2
  go_ret2
  exact ⟨rfl, bthen ((Below.refl _ _).alloc (Nat.le_refl _) _) hb1⟩

set_option maxHeartbeats 4000000 in
set_option maxRecDepth 10000 in
theorem encode_yes (k s g se nu : Nat) (t : List UInt8) (w : World) (h0 : k < 256) (h1 : s < 256) (h2 : g < 256) (h3 : se < 65536) (h4 : nu < 4294967296) (h5 : t.length ≤ 16)
    (HC : Hid (∀ w, Calls Tryd.prog 50 #[.agg #[.int .i64 k, .int .i64 s, .int .i64 g, .int .u64 se, .int .u64 nu, .string (bs t)]] w fun r w' => r = .returned (.int .i64 0) ∧ Below w.heap.size w w')) :
    Calls Tryd.prog 59 #[.agg #[.int .i64 k, .int .i64 s, .int .i64 g, .int .u64 se, .int .u64 nu, .string (bs t)]] w fun r w' =>
      r = .returned (.tuple #[.string (bs (put k 1 ++ put s 1 ++ put g 1 ++ put se 2 ++ put nu 4 ++ tput t 16 ++ [0, 0])), .int .i64 0]) ∧ Below w.heap.size w w' := by
  have ht := fun w => putText_yes (bs t) 16 w (by rw [bs_size]; omega) (by decide)
  rw [bs_list] at ht
  have HT := Lib.hid ht; clear ht
  have tl : (tput t 16).length = 17 := tput_length (by omega)
  go_enter Tryd.func59, Tryd.ntmps59
  go_wp2_with fail
  refine (HC.out _).mono ?_
  rintro r w1 ⟨rfl, hb1⟩
  have c0 := hb1.cell (p := ⟨w.heap.size, 0, none⟩) (by simp)
  have c1 := hb1.cell (p := ⟨w.heap.size, 1, none⟩) (by simp)
  have c2 := hb1.cell (p := ⟨w.heap.size, 2, none⟩) (by simp)
  have c3 := hb1.cell (p := ⟨w.heap.size, 3, none⟩) (by simp)
  have c4 := hb1.cell (p := ⟨w.heap.size, 4, none⟩) (by simp)
  have c5 := hb1.cell (p := ⟨w.heap.size, 5, none⟩) (by simp)
  have hb : Below w.heap.size w w1 := bthen ((Below.refl _ _).alloc (Nat.le_refl _) _) hb1
  simp at c0 c1 c2 c3 c4 c5
  have hz : w.heap.size < w1.heap.size := by have := hb1.size; simp at this; omega
  clear hb1
  go_wp2_with fail
  refine (HT.out _).mono ?_
  rintro r w2 ⟨rfl, hb2⟩
  have d0 := (hb2.cell (p := ⟨w.heap.size, 0, none⟩) hz).trans c0
  have d1 := (hb2.cell (p := ⟨w.heap.size, 1, none⟩) hz).trans c1
  have d2 := (hb2.cell (p := ⟨w.heap.size, 2, none⟩) hz).trans c2
  have d3 := (hb2.cell (p := ⟨w.heap.size, 3, none⟩) hz).trans c3
  have d4 := (hb2.cell (p := ⟨w.heap.size, 4, none⟩) hz).trans c4
  have hb3 : Below w.heap.size w w2 := bthen hb hb2
  clear hb2 c0 c1 c2 c3 c4 c5 hb hz
  go_wp2_with fail
  have e0 : IntKind.u64.wrap (k : Int) = (k : Int) := by rw [wrap_u64]; omega
  have e1 : IntKind.u64.wrap (s : Int) = (s : Int) := by rw [wrap_u64]; omega
  have e2 : IntKind.u64.wrap (g : Int) = (g : Int) := by rw [wrap_u64]; omega
  have hbd := bdrew hb3
  go_region_held3 (fun w' => w'.cell? ⟨w.heap.size, 0, none⟩ = some (.int .i64 k) ∧ w'.cell? ⟨w.heap.size, 1, none⟩ = some (.int .i64 s) ∧ w'.cell? ⟨w.heap.size, 2, none⟩ = some (.int .i64 g) ∧ w'.cell? ⟨w.heap.size, 3, none⟩ = some (.int .u64 se) ∧ w'.cell? ⟨w.heap.size, 4, none⟩ = some (.int .u64 nu) ∧ Below w.heap.size w w')
    (first | (refine ⟨?_, ?_, ?_, ?_, ?_, ?_⟩ <;> assumption) | (refine ⟨?_, ?_, ?_, ?_, ?_, bdrew hb3⟩ <;> simp [*]))
    (first | (go_at_call 43; refine (put_box w w.heap.size (.int .i64 k) (.int .i64 s) (.int .i64 g) (.int .u64 se) (.int .u64 nu) _ _ _ ?_ ⟨by assumption, by assumption, by assumption, by assumption, by assumption, by assumption⟩).mono ?_; (omega); rintro e w' ⟨rfl, k0, k1, k2, k3, k4, k5⟩))
  go_wp2
  go_ret2
  exact ⟨ret2 (v_string (by show bs _ ++ bs [0, 0] = _; simp only [bs_append, List.append_assoc])) rfl, by assumption⟩

theorem encode_any (e : Ent) (he : e.Ok) (w : World) :
    Calls Tryd.prog 59 #[e.val] w fun r w' => r = .returned (.tuple #[.string (bs e.enc), .int .i64 (okCode e.may)]) ∧ Below w.heap.size w w' := by
  cases hm : e.may with
  | false =>
    rw [Ent.enc, hm]
    exact encode_no e he w hm
  | true =>
    have hc := fun w => check_any e he w
    rw [hm] at hc
    rw [Ent.enc, if_pos hm]
    obtain ⟨k0, k1, s0, s1, g0, g1, hse, hnu, ht⟩ := Ent.may_bounds hm
    have b0 := u64_of he.session
    have b1 := u64_of he.number
    obtain ⟨k, s, g, se, nu, t⟩ := e
    simp only at *
    obtain ⟨k, rfl⟩ := Int.eq_ofNat_of_zero_le k0
    obtain ⟨s, rfl⟩ := Int.eq_ofNat_of_zero_le s0
    obtain ⟨g, rfl⟩ := Int.eq_ofNat_of_zero_le g0
    obtain ⟨se, rfl⟩ := Int.eq_ofNat_of_zero_le b0.1
    obtain ⟨nu, rfl⟩ := Int.eq_ofNat_of_zero_le b1.1
    obtain ⟨t, rfl⟩ : ∃ l, t = bs l := ⟨_, (bs_data t).symm⟩
    exact encode_yes k s g se nu t w (by omega) (by omega) (by omega) (by omega) (by omega) ht hc


end Go.Proofs.YthapghhmeicbnaaDoor
