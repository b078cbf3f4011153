/- Packets: the plain laws of layer 5. -/
import Derived.Test.YthapghhmeicbnaaDoorKP
set_option linter.unusedVariables false
set_option linter.unusedSimpArgs false
namespace Go.Proofs.YthapghhmeicbnaaDoor
open Go.RowKit
set_option maxRecDepth 20000

theorem seg_length {s : List UInt8} {a n : Nat} (h : a + n ≤ s.length) : (seg s a n).length = n := by unfold seg; rw [List.length_take, List.length_drop]; omega
theorem put_num {s : List UInt8} {a n : Nat} (h : a + n ≤ s.length) : put (num s a n).toNat n = seg s a n := by
  have := put_val (seg s a n)
  rw [seg_length h] at this
  exact this
theorem idb_at {s : List UInt8} {a : Nat} (h : a + 9 ≤ s.length) : idb (idAt s a) = seg s a 9 := by
  unfold idb idAt
  rw [put_num (by omega), put_num (by omega), put_num (by omega), seg_cat s a 4 1, seg_cat s a (4 + 1) 4]
theorem v8b_at {s : List UInt8} {a : Nat} (h : a + 32 ≤ s.length) : v8b (v8At s a) = seg s a 32 := by
  rw [v8b_eq]
  unfold v8At
  simp only []
  rw [put_num (by omega), put_num (by omega), put_num (by omega), put_num (by omega), put_num (by omega), put_num (by omega), put_num (by omega), put_num (by omega)]
  rw [seg_cat s (a + 24) 4 4, seg_cat s (a + 20) 4 (4 + 4), seg_cat s (a + 16) 4 (4 + (4 + 4)), seg_cat s (a + 12) 4 (4 + (4 + (4 + 4))), seg_cat s (a + 8) 4 (4 + (4 + (4 + (4 + 4)))), seg_cat s (a + 4) 4 (4 + (4 + (4 + (4 + (4 + 4))))), seg_cat s a 4 (4 + (4 + (4 + (4 + (4 + (4 + 4))))))]
theorem bit_num {s : List UInt8} (h : s.length = 641) (h1 : num s 119 1 ≤ 1) : put (bit (decide (num s 119 1 = 1))) 1 = seg s 119 1 := by
  rw [← put_num (s := s) (a := 119) (n := 1) (by omega)]
  have h0 : 0 ≤ num s 119 1 := (u32_num s 119 (n := 1) (by decide)).1
  rcases (show num s 119 1 = 0 ∨ num s 119 1 = 1 by omega) with e | e <;> rw [e] <;> rfl
theorem body_at {s : List UInt8} {a b c : Fr} (h : s.length = 641) (h1 : num s 119 1 ≤ 1) (ha : a.bytes = seg s 128 168) (hb : b.bytes = seg s 296 168) (hc : c.bytes = seg s 469 168) : (pktOf s a b c).body = seg s 0 637 := by
  unfold Pkt.body pktOf
  simp only []
  rw [bit_num h h1, idb_at (by omega), idb_at (by omega), v8b_at (by omega), v8b_at (by omega), v8b_at (by omega), ha, hb, hc]
  rw [put_num (by omega), put_num (by omega), put_num (by omega), put_num (by omega), put_num (by omega), put_num (by omega)]
  rw [seg_cat s 0 1 4, seg_cat s 0 (1 + 4) 9, seg_cat s 0 (1 + 4 + 9) 32, seg_cat s 0 (1 + 4 + 9 + 32) 32, seg_cat s 0 (1 + 4 + 9 + 32 + 32) 9, seg_cat s 0 (1 + 4 + 9 + 32 + 32 + 9) 32, seg_cat s 0 (1 + 4 + 9 + 32 + 32 + 9 + 32) 1, seg_cat s 0 (1 + 4 + 9 + 32 + 32 + 9 + 32 + 1) 4, seg_cat s 0 (1 + 4 + 9 + 32 + 32 + 9 + 32 + 1 + 4) 4,
    seg_cat s 0 (1 + 4 + 9 + 32 + 32 + 9 + 32 + 1 + 4 + 4) 168, seg_cat s 0 (1 + 4 + 9 + 32 + 32 + 9 + 32 + 1 + 4 + 4 + 168) 168, seg_cat s 0 (1 + 4 + 9 + 32 + 32 + 9 + 32 + 1 + 4 + 4 + 168 + 168) 1, seg_cat s 0 (1 + 4 + 9 + 32 + 32 + 9 + 32 + 1 + 4 + 4 + 168 + 168 + 1) 4, seg_cat s 0 (1 + 4 + 9 + 32 + 32 + 9 + 32 + 1 + 4 + 4 + 168 + 168 + 1 + 4) 168]
theorem pktDec_some {s : List UInt8} {p : Pkt} (h : pktDec s = .ok p) : p.may = true ∧ p.bytes = s := by
  unfold pktDec at h
  split at h
  · rename_i hl
    split at h
    · rename_i hc
      split at h
      · rename_i q hq
        cases h
        unfold pktParts at hq
        split at hq
        · rename_i a b c e1 e2 e3
          split at hq
          · rename_i hh
            cases hq
            refine ⟨hh.2, ?_⟩
            obtain ⟨-, f1, -, -⟩ := frDec_some e1
            obtain ⟨-, f2, -, -⟩ := frDec_some e2
            obtain ⟨-, f3, -, -⟩ := frDec_some e3
            unfold Pkt.bytes
            rw [body_at hl hh.1 f1 f2 f3]
            have := crcOk_seal4 (l := s) (by omega)
            rw [hc, hl] at this
            have h2 := of_decide_eq_true this
            exact h2
          · cases hq
        · cases hq
      · cases h
    · cases h
  · cases h
theorem outP_some {s : List UInt8} (h : outPC s = 0) : pktDec s = .ok (outP s) := by
  unfold outPC at h
  unfold outP
  cases e : pktDec s <;> rw [e] at h <;> simp at h ⊢
theorem outP_back {s : List UInt8} (h : outPC s = 0) : (outP s).may = true ∧ (outP s).bytes = s := pktDec_some (outP_some h)
theorem outP_enc {p : Pkt} (hp : p.Fit) (h : p.may = true) : outPC p.enc = 0 ∧ outP p.enc = p := by
  have e : pktDec p.enc = .ok p := by unfold Pkt.enc; rw [if_pos h]; exact pktDec_bytes h hp.ok
  constructor
  · unfold outPC; rw [e]
  · unfold outP; rw [e]
theorem penc_len {p : Pkt} (h : p.may = true) : p.enc.length = 641 := by unfold Pkt.enc; rw [if_pos h]; exact Pkt.bytes_length h
theorem penc_le (p : Pkt) : p.enc.length ≤ 641 := by
  unfold Pkt.enc
  split
  · rename_i h; exact Nat.le_of_eq (Pkt.bytes_length h)
  · exact Nat.zero_le _

/-! ### Turned -/
theorem turn_get {l f : List UInt8} {a : Int} : ∀ {j : Nat}, ∀ i : Nat, (i : Int) < a ∨ a + (j : Int) ≤ (i : Int) → (turnTo l a f j)[i]? = l[i]?
  | 0, i, _ => rfl
  | j + 1, i, h => by
    have ih := turn_get (l := l) (f := f) (a := a) (j := j) i (by omega)
    rw [turnTo]
    split
    · rename_i hc
      rw [List.getElem?_set_ne (by omega), ih]
    · exact ih
theorem turn_id {l f : List UInt8} {a : Int} (h : ¬ (0 ≤ a ∧ a < (l.length : Int))) : ∀ j, turnTo l a f j = l
  | 0 => rfl
  | j + 1 => by rw [turnTo, if_neg (fun e => h ⟨e.1, by omega⟩), turn_id h j]
theorem turn_split {l f : List UInt8} {a : Int} (h : 0 ≤ a ∧ a < (l.length : Int)) : ∃ x y z w : List UInt8, l = x ++ (y ++ w) ∧ turnTo l a f 4 = x ++ (z ++ w) ∧ y.length = z.length ∧ y.length ≤ 4 := by
  obtain ⟨n, rfl⟩ := Int.eq_ofNat_of_zero_le h.1
  have hn : n < l.length := by omega
  refine ⟨l.take n, (l.drop n).take 4, ((turnTo l n f 4).drop n).take 4, l.drop (n + 4), ?_, ?_, ?_, ?_⟩
  · rw [← List.drop_drop, List.take_append_drop, List.take_append_drop]
  · have e1 : l.take n = (turnTo l n f 4).take n := by
      apply List.ext_getElem?
      intro i
      rw [List.getElem?_take, List.getElem?_take]
      split
      · rw [turn_get i (by omega)]
      · rfl
    have e2 : l.drop (n + 4) = (turnTo l n f 4).drop (n + 4) := by
      apply List.ext_getElem?
      intro i
      rw [List.getElem?_drop, List.getElem?_drop, turn_get _ (by omega)]
    rw [e1, e2, ← List.drop_drop, List.take_append_drop, List.take_append_drop]
  · simp only [List.length_take, List.length_drop, turnTo_length]
  · rw [List.length_take]; omega
theorem turned {p : Pkt} (hp : p.Fit) (h : p.may = true) (a : Int) (m : Nat) (hne : turnTo p.enc a (four m) 4 ≠ p.enc) : outPC (turnTo p.enc a (four m) 4) = 51 ∧ outP (turnTo p.enc a (four m) 4) = .zero := by
  have hl : (turnTo p.enc a (four m) 4).length = 641 := by rw [turnTo_length, penc_len h]
  have hok : crcOk p.enc = true := by unfold Pkt.enc; rw [if_pos h]; exact crcOk_seal _
  have hin : 0 ≤ a ∧ a < (p.enc.length : Int) := Classical.byContradiction fun e => hne (turn_id e 4)
  obtain ⟨x, y, z, w, e1, e2, e3, e4⟩ := turn_split (f := four m) hin
  have hbad : crcOk (turnTo p.enc a (four m) 4) = false := by
    cases hc : crcOk (turnTo p.enc a (four m) 4) with
    | false => rfl
    | true =>
      exfalso
      apply hne
      rw [e2] at hc ⊢
      have hl2 := penc_len h
      rw [e1] at hok hl2
      rw [e1, crcOk_burst e3 e4 (by omega) hok hc]
  have e : pktDec (turnTo p.enc a (four m) 4) = .sum := (if_pos hl).trans (if_neg (by rw [hbad]; decide))
  constructor
  · unfold outPC; rw [e]
  · unfold outP; rw [e]

/-! ### Parts of the bytes -/
def Pkt.pre (p : Pkt) : List UInt8 := put p.src.toNat 1 ++ put p.inc.toNat 4 ++ idb p.conf ++ v8b p.members ++ v8b p.count ++ idb p.promise ++ v8b p.wanted ++ put (bit p.ready) 1 ++ put p.epoch.toNat 4 ++ put p.round.toNat 4
def Pkt.mid (p : Pkt) : List UInt8 := put p.relayOf.toNat 1 ++ put p.relayRound.toNat 4
theorem pre_length (p : Pkt) : p.pre.length = 128 := by simp only [Pkt.pre, List.length_append, put_length, idb_length, v8b_length]
theorem mid_length (p : Pkt) : p.mid.length = 5 := by simp only [Pkt.mid, List.length_append, put_length]
theorem penc_parts {p : Pkt} (h : p.may = true) : p.enc = p.pre ++ (p.newest.bytes ++ (p.older.bytes ++ (p.mid ++ (p.relay.bytes ++ four (crc p.body))))) := by
  unfold Pkt.enc
  rw [if_pos h]
  simp only [Pkt.bytes, seal4, Pkt.body, Pkt.pre, Pkt.mid, List.append_assoc]
def apartP (p : Pkt) (t : Int) (f : Fr) : Pkt := { p with newest := p.newest.with t (f.lane 0), older := p.older.with t (f.lane 1), relay := p.relay.with t (f.lane 2) }
theorem get_app {α : Type} {x y : List α} {n i : Nat} (hx : x.length = n) : (x ++ y)[i]? = if i < n then x[i]? else y[i - n]? := by
  subst hx
  rw [List.getElem?_append]
def liesB (i fr t : Int) : Bool := decide (i ≥ fr + 56 * t) && decide (i < fr + 56 * t + 56)
theorem lies_no {i fr : Nat} {t : Int} (hi : fr ≤ i) (h : liesB i fr t = false) : (((i - fr) / 56 : Nat) : Int) ≠ t := by
  rintro rfl
  have h1 := Nat.div_mul_le_self (i - fr) 56
  have h2 := Nat.lt_div_mul_add (a := i - fr) (b := 56) (by decide)
  have : liesB (i : Int) (fr : Int) (((i - fr) / 56 : Nat) : Int) = true := by
    unfold liesB
    rw [Bool.and_eq_true, decide_eq_true_iff, decide_eq_true_iff]
    generalize (i - fr) / 56 = d at *
    omega
  rw [this] at h
  cases h
theorem Pkt.apart {p : Pkt} {t : Int} {f : Fr} (h : p.may = true) (g : (apartP p t f).may = true) {i : Nat} (hi : i < 637) (h1 : liesB i 128 t = false) (h2 : liesB i 296 t = false) (h3 : liesB i 469 t = false) : p.enc[i]? = (apartP p t f).enc[i]? := by
  rw [penc_parts h, penc_parts g]
  obtain ⟨-, m1, m2, m3⟩ := Pkt.may_iff.1 h
  obtain ⟨-, n1, n2, n3⟩ := Pkt.may_iff.1 g
  have e0 : (apartP p t f).pre = p.pre := rfl
  have em : (apartP p t f).mid = p.mid := rfl
  rw [e0, em, get_app (pre_length p), get_app (pre_length p)]
  split
  · rfl
  · rename_i g0
    rw [get_app (Fr.bytes_length m1), get_app (Fr.bytes_length n1)]
    split
    · exact Fr.apart m1 n1 (i - 128) (lies_no (by omega) h1)
    · rename_i g1
      rw [get_app (Fr.bytes_length m2), get_app (Fr.bytes_length n2)]
      split
      · rw [show i - 128 - 168 = i - 296 by omega]
        exact Fr.apart m2 n2 (i - 296) (lies_no (by omega) h2)
      · rename_i g2
        rw [get_app (mid_length p), get_app (mid_length p)]
        split
        · rfl
        · rename_i g3
          rw [get_app (Fr.bytes_length m3), get_app (Fr.bytes_length n3), if_pos (by omega), if_pos (by omega)]
          rw [show i - 128 - 168 - 168 - 5 = i - 469 by omega]
          exact Fr.apart m3 n3 (i - 469) (lies_no (by omega) h3)
theorem apart_fit {p : Pkt} {f : Fr} (t : Int) (hp : p.Fit) (hf : f.Ok) : (apartP p t f).Fit := by
  have a := with_ok hp.newest (lane_ok hf 0) t
  have b := with_ok hp.older (lane_ok hf 1) t
  have c := with_ok hp.relay (lane_ok hf 2) t
  exact ⟨⟨hp.ok.src, hp.ok.inc, hp.ok.conf, hp.ok.members, hp.ok.count, hp.ok.promise, hp.ok.wanted, hp.ok.epoch, hp.ok.round, a.pos, b.pos, hp.ok.relayOf, hp.ok.relayRound, c.pos⟩, a, b, c⟩

/-! ### Fields -/
def withCount (p : Pkt) (c : V8) : Pkt := { p with count := c }
def flipped (p : Pkt) : Pkt := { p with ready := !p.ready }
theorem count_fit {p : Pkt} {c : V8} (hp : p.Fit) (hc : c.Ok) : (withCount p c).Fit :=
  ⟨⟨hp.ok.src, hp.ok.inc, hp.ok.conf, hp.ok.members, hc, hp.ok.promise, hp.ok.wanted, hp.ok.epoch, hp.ok.round, hp.ok.newest, hp.ok.older, hp.ok.relayOf, hp.ok.relayRound, hp.ok.relay⟩, hp.newest, hp.older, hp.relay⟩
theorem flip_fit {p : Pkt} (hp : p.Fit) : (flipped p).Fit :=
  ⟨⟨hp.ok.src, hp.ok.inc, hp.ok.conf, hp.ok.members, hp.ok.count, hp.ok.promise, hp.ok.wanted, hp.ok.epoch, hp.ok.round, hp.ok.newest, hp.ok.older, hp.ok.relayOf, hp.ok.relayRound, hp.ok.relay⟩, hp.newest, hp.older, hp.relay⟩
theorem count_may (p : Pkt) (c : V8) : (withCount p c).may = p.may := rfl
theorem flip_may (p : Pkt) : (flipped p).may = p.may := rfl
def Pkt.hd (p : Pkt) : List UInt8 := put p.src.toNat 1 ++ put p.inc.toNat 4 ++ idb p.conf ++ v8b p.members
def Pkt.tl (p : Pkt) : List UInt8 := idb p.promise ++ v8b p.wanted ++ put (bit p.ready) 1 ++ put p.epoch.toNat 4 ++ put p.round.toNat 4 ++ p.newest.bytes ++ p.older.bytes ++ put p.relayOf.toNat 1 ++ put p.relayRound.toNat 4 ++ p.relay.bytes
def Pkt.hr (p : Pkt) : List UInt8 := put p.src.toNat 1 ++ put p.inc.toNat 4 ++ idb p.conf ++ v8b p.members ++ v8b p.count ++ idb p.promise ++ v8b p.wanted
def Pkt.tr (p : Pkt) : List UInt8 := put p.epoch.toNat 4 ++ put p.round.toNat 4 ++ p.newest.bytes ++ p.older.bytes ++ put p.relayOf.toNat 1 ++ put p.relayRound.toNat 4 ++ p.relay.bytes
theorem hd_length (p : Pkt) : p.hd.length = 46 := by simp only [Pkt.hd, List.length_append, put_length, idb_length, v8b_length]
theorem hr_length (p : Pkt) : p.hr.length = 119 := by simp only [Pkt.hr, List.length_append, put_length, idb_length, v8b_length]
theorem tl_length {p : Pkt} (h : p.may = true) : p.tl.length = 559 := by
  obtain ⟨-, m1, m2, m3⟩ := Pkt.may_iff.1 h
  simp only [Pkt.tl, List.length_append, put_length, idb_length, v8b_length, Fr.bytes_length m1, Fr.bytes_length m2, Fr.bytes_length m3]
theorem tr_length {p : Pkt} (h : p.may = true) : p.tr.length = 517 := by
  obtain ⟨-, m1, m2, m3⟩ := Pkt.may_iff.1 h
  simp only [Pkt.tr, List.length_append, put_length, Fr.bytes_length m1, Fr.bytes_length m2, Fr.bytes_length m3]
theorem enc_count {p : Pkt} (h : p.may = true) : p.enc = p.hd ++ (v8b p.count ++ (p.tl ++ four (crc p.body))) := by
  unfold Pkt.enc
  rw [if_pos h]
  simp only [Pkt.bytes, seal4, Pkt.body, Pkt.hd, Pkt.tl, List.append_assoc]
theorem enc_ready {p : Pkt} (h : p.may = true) : p.enc = p.hr ++ (put (bit p.ready) 1 ++ (p.tr ++ four (crc p.body))) := by
  unfold Pkt.enc
  rw [if_pos h]
  simp only [Pkt.bytes, seal4, Pkt.body, Pkt.hr, Pkt.tr, List.append_assoc]
theorem take_at {x y : List UInt8} {n : Nat} (h : x.length = n) : (x ++ y).take n = x := by subst h; simp
theorem field_a {p : Pkt} {c : V8} (h : p.may = true) : p.enc.take 46 = (withCount p c).enc.take 46 := by
  rw [enc_count h, enc_count (show (withCount p c).may = true from h), take_at (hd_length p), take_at (hd_length _)]
  rfl
theorem field_b {p : Pkt} {c : V8} (h : p.may = true) : seg p.enc 78 559 = seg (withCount p c).enc 78 559 := by
  have h' : (withCount p c).may = true := h
  rw [enc_count h, enc_count h', ← List.append_assoc, ← List.append_assoc (withCount p c).hd, seg_at (by rw [List.length_append, hd_length, v8b_length]) (tl_length h), seg_at (by rw [List.length_append, hd_length, v8b_length]) (tl_length h')]
  rfl
theorem v8b_inj {x y : V8} (hx : x.Ok) (hy : y.Ok) (h : v8b x = v8b y) : x = y := by
  have a := v8At_of (s := v8b x) (a := 0) (v := x) (by unfold seg; rw [List.drop_zero, List.take_of_length_le (by rw [v8b_length]; exact Nat.le_refl _)]) hx
  have b := v8At_of (s := v8b x) (a := 0) (v := y) (by unfold seg; rw [List.drop_zero, List.take_of_length_le (by rw [v8b_length]; exact Nat.le_refl _), h]) hy
  rw [← a, b]
theorem field_c {p : Pkt} {c : V8} (hp : p.Fit) (hc : c.Ok) (h : p.may = true) : (decide (p.enc = (withCount p c).enc) == decide (p.count = c)) = true := by
  rw [beq_iff_eq, Bool.eq_iff_iff, decide_eq_true_iff, decide_eq_true_iff]
  constructor
  · intro e
    rw [enc_count h, enc_count (show (withCount p c).may = true from h)] at e
    have e1 := (List.append_inj e (by rw [hd_length, hd_length])).2
    have e2 := (List.append_inj e1 (by rw [v8b_length, v8b_length])).1
    exact v8b_inj hp.ok.count hc e2
  · rintro rfl; rfl
theorem field_d {p : Pkt} (h : p.may = true) : p.enc.take 119 = (flipped p).enc.take 119 := by
  rw [enc_ready h, enc_ready (show (flipped p).may = true from h), take_at (hr_length p), take_at (hr_length _)]
  rfl
theorem field_e {p : Pkt} (h : p.may = true) : seg p.enc 120 517 = seg (flipped p).enc 120 517 := by
  have h' : (flipped p).may = true := h
  rw [enc_ready h, enc_ready h', ← List.append_assoc, ← List.append_assoc (flipped p).hr, seg_at (by rw [List.length_append, hr_length, put_length]) (tr_length h), seg_at (by rw [List.length_append, hr_length, put_length]) (tr_length h')]
  rfl
theorem field_f {p : Pkt} (h : p.may = true) : p.enc ≠ (flipped p).enc := by
  intro e
  rw [enc_ready h, enc_ready (show (flipped p).may = true from h)] at e
  have e1 := (List.append_inj e (by rw [hr_length, hr_length])).2
  have e2 := (List.append_inj e1 (by rw [put_length, put_length])).1
  have : (flipped p).ready = !p.ready := rfl
  rw [this] at e2
  cases hr : p.ready <;> rw [hr] at e2 <;> exact absurd e2 (by decide)
end Go.Proofs.YthapghhmeicbnaaDoor
