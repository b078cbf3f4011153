/- Packets: their bytes, and what packet bytes are. -/
import Derived.Test.YthapghhmeicbnaaDoorPlainC
namespace Go.Proofs.YthapghhmeicbnaaDoor

structure V8 where
  n0 : Int
  n1 : Int
  n2 : Int
  n3 : Int
  n4 : Int
  n5 : Int
  n6 : Int
  n7 : Int
  deriving DecidableEq
def V8.list (v : V8) : List Int := [v.n0, v.n1, v.n2, v.n3, v.n4, v.n5, v.n6, v.n7]
structure Id3 where
  epoch : Int
  coord : Int
  inc : Int
  deriving DecidableEq
structure Pkt where
  src : Int
  inc : Int
  conf : Id3
  members : V8
  count : V8
  promise : Id3
  wanted : V8
  ready : Bool
  epoch : Int
  round : Int
  newest : Fr
  older : Fr
  relayOf : Int
  relayRound : Int
  relay : Fr
  deriving DecidableEq

def U32 (n : Int) : Prop := 0 ≤ n ∧ n ≤ 4294967295
def Id3.Ok (x : Id3) : Prop := U32 x.epoch ∧ U32 x.coord ∧ U32 x.inc
def V8.Ok (v : V8) : Prop := U32 v.n0 ∧ U32 v.n1 ∧ U32 v.n2 ∧ U32 v.n3 ∧ U32 v.n4 ∧ U32 v.n5 ∧ U32 v.n6 ∧ U32 v.n7
/-- The numbers of a packet are of 32 bits, those of its entries not below 0. -/
structure Pkt.Ok (p : Pkt) : Prop where
  src : U32 p.src
  inc : U32 p.inc
  conf : p.conf.Ok
  members : p.members.Ok
  count : p.count.Ok
  promise : p.promise.Ok
  wanted : p.wanted.Ok
  epoch : U32 p.epoch
  round : U32 p.round
  newest : p.newest.pos
  older : p.older.pos
  relayOf : U32 p.relayOf
  relayRound : U32 p.relayRound
  relay : p.relay.pos

def idb (x : Id3) : List UInt8 := put x.epoch.toNat 4 ++ put x.coord.toNat 1 ++ put x.inc.toNat 4
def v8b (v : V8) : List UInt8 := v.list.flatMap fun n => put n.toNat 4
def bit (b : Bool) : Nat := if b then 1 else 0
def Pkt.body (p : Pkt) : List UInt8 :=
  put p.src.toNat 1 ++ put p.inc.toNat 4 ++ idb p.conf ++ v8b p.members ++ v8b p.count ++ idb p.promise ++ v8b p.wanted ++ put (bit p.ready) 1 ++ put p.epoch.toNat 4 ++ put p.round.toNat 4 ++
    p.newest.bytes ++ p.older.bytes ++ put p.relayOf.toNat 1 ++ put p.relayRound.toNat 4 ++ p.relay.bytes
def Pkt.may (p : Pkt) : Bool := decide (p.src ≤ 7 ∧ p.relayOf ≤ 7 ∧ p.conf.coord ≤ 7 ∧ p.promise.coord ≤ 7) && (p.newest.may && p.older.may && p.relay.may)

def num (s : List UInt8) (a n : Nat) : Int := val (seg s a n)
def idAt (s : List UInt8) (a : Nat) : Id3 := ⟨num s a 4, num s (a + 4) 1, num s (a + 5) 4⟩
def v8At (s : List UInt8) (a : Nat) : V8 := ⟨num s a 4, num s (a + 4) 4, num s (a + 8) 4, num s (a + 12) 4, num s (a + 16) 4, num s (a + 20) 4, num s (a + 24) 4, num s (a + 28) 4⟩
def pktOf (s : List UInt8) (a b c : Fr) : Pkt :=
  ⟨num s 0 1, num s 1 4, idAt s 5, v8At s 14, v8At s 46, idAt s 78, v8At s 87, decide (num s 119 1 = 1), num s 120 4, num s 124 4, a, b, num s 464 1, num s 465 4, c⟩
/-- The packet that lies in a text of the right length, if its parts may be. -/
def pktParts (s : List UInt8) : Option Pkt :=
  match frDec (seg s 128 168), frDec (seg s 296 168), frDec (seg s 469 168) with
  | some a, some b, some c => if num s 119 1 ≤ 1 ∧ (pktOf s a b c).may = true then some (pktOf s a b c) else none
  | _, _, _ => none
inductive Got where
  | long
  | sum
  | form
  | ok (p : Pkt)
  deriving DecidableEq
def pktDec (s : List UInt8) : Got :=
  if s.length = 641 then if crcOk s = true then match pktParts s with | some p => .ok p | none => .form else .sum else .long
def Pkt.bytes (p : Pkt) : List UInt8 := seal4 p.body

theorem Pkt.may_iff {p : Pkt} : p.may = true ↔ (p.src ≤ 7 ∧ p.relayOf ≤ 7 ∧ p.conf.coord ≤ 7 ∧ p.promise.coord ≤ 7) ∧ p.newest.may = true ∧ p.older.may = true ∧ p.relay.may = true := by
  simp [Pkt.may, Bool.and_eq_true, and_assoc]
theorem v8b_eq (v : V8) : v8b v = put v.n0.toNat 4 ++ (put v.n1.toNat 4 ++ (put v.n2.toNat 4 ++ (put v.n3.toNat 4 ++ (put v.n4.toNat 4 ++ (put v.n5.toNat 4 ++ (put v.n6.toNat 4 ++ put v.n7.toNat 4)))))) := by
  simp [v8b, V8.list]
theorem v8b_length (v : V8) : (v8b v).length = 32 := by simp [v8b_eq, put_length]
theorem idb_length (x : Id3) : (idb x).length = 9 := by simp [idb, put_length]
theorem Pkt.body_length {p : Pkt} (h : p.may = true) : p.body.length = 637 := by
  obtain ⟨_, h1, h2, h3⟩ := Pkt.may_iff.1 h
  simp only [Pkt.body, List.length_append, put_length, idb_length, v8b_length, Fr.bytes_length h1, Fr.bytes_length h2, Fr.bytes_length h3]
theorem Pkt.bytes_length {p : Pkt} (h : p.may = true) : p.bytes.length = 641 := by
  simp [Pkt.bytes, seal4, four, Pkt.body_length h]

/-- A part that stands at a place in what is joined. -/
theorem seg_at {x y z : List UInt8} {a n : Nat} (hx : x.length = a) (hy : y.length = n) : seg (x ++ (y ++ z)) a n = y := by
  subst hx; subst hy
  simp [seg]
theorem seg_seg (s : List UInt8) {a n b m : Nat} (h : b + m ≤ n) : seg (seg s a n) b m = seg s (a + b) m := by
  unfold seg
  rw [List.drop_take, List.drop_drop, List.take_take, Nat.min_eq_left (by omega)]

theorem num_put {n : Int} {w : Nat} (h0 : 0 ≤ n) (h1 : n < 256 ^ w) : ((val (put n.toNat w) : Nat) : Int) = n := by
  rw [val_put, Nat.mod_eq_of_lt]
  · omega
  · have : ((n.toNat : Nat) : Int) = n := by omega
    have h2 : ((n.toNat : Nat) : Int) < ((256 ^ w : Nat) : Int) := by rw [this]; simpa using h1
    exact Int.ofNat_lt.1 h2

/-- The parts of a body, told as segments. -/
structure Parts (p : Pkt) (s : List UInt8) : Prop where
  src : seg s 0 1 = put p.src.toNat 1
  inc : seg s 1 4 = put p.inc.toNat 4
  conf : seg s 5 9 = idb p.conf
  members : seg s 14 32 = v8b p.members
  count : seg s 46 32 = v8b p.count
  promise : seg s 78 9 = idb p.promise
  wanted : seg s 87 32 = v8b p.wanted
  ready : seg s 119 1 = put (bit p.ready) 1
  epoch : seg s 120 4 = put p.epoch.toNat 4
  round : seg s 124 4 = put p.round.toNat 4
  newest : seg s 128 168 = p.newest.bytes
  older : seg s 296 168 = p.older.bytes
  relayOf : seg s 464 1 = put p.relayOf.toNat 1
  relayRound : seg s 465 4 = put p.relayRound.toNat 4
  relay : seg s 469 168 = p.relay.bytes

theorem Pkt.parts {p : Pkt} (h : p.may = true) (r : List UInt8) : Parts p (p.body ++ r) := by
  obtain ⟨_, h1, h2, h3⟩ := Pkt.may_iff.1 h
  have l1 := Fr.bytes_length h1
  have l2 := Fr.bytes_length h2
  have l3 := Fr.bytes_length h3
  constructor
  · rw [show p.body ++ r = [] ++ (put p.src.toNat 1 ++ (put p.inc.toNat 4 ++ idb p.conf ++ v8b p.members ++ v8b p.count ++ idb p.promise ++ v8b p.wanted ++ put (bit p.ready) 1 ++ put p.epoch.toNat 4 ++ put p.round.toNat 4 ++ p.newest.bytes ++ p.older.bytes ++ put p.relayOf.toNat 1 ++ put p.relayRound.toNat 4 ++ p.relay.bytes ++ r)) by simp only [Pkt.body, List.append_assoc, List.nil_append]]
    exact seg_at rfl (put_length _ _)
  · rw [show p.body ++ r = put p.src.toNat 1 ++ (put p.inc.toNat 4 ++ (idb p.conf ++ v8b p.members ++ v8b p.count ++ idb p.promise ++ v8b p.wanted ++ put (bit p.ready) 1 ++ put p.epoch.toNat 4 ++ put p.round.toNat 4 ++ p.newest.bytes ++ p.older.bytes ++ put p.relayOf.toNat 1 ++ put p.relayRound.toNat 4 ++ p.relay.bytes ++ r)) by simp only [Pkt.body, List.append_assoc]]
    exact seg_at (put_length _ _) (put_length _ _)
  · rw [show p.body ++ r = (put p.src.toNat 1 ++ put p.inc.toNat 4) ++ (idb p.conf ++ (v8b p.members ++ v8b p.count ++ idb p.promise ++ v8b p.wanted ++ put (bit p.ready) 1 ++ put p.epoch.toNat 4 ++ put p.round.toNat 4 ++ p.newest.bytes ++ p.older.bytes ++ put p.relayOf.toNat 1 ++ put p.relayRound.toNat 4 ++ p.relay.bytes ++ r)) by simp only [Pkt.body, List.append_assoc]]
    exact seg_at (by simp [put_length]) (idb_length _)
  · rw [show p.body ++ r = (put p.src.toNat 1 ++ put p.inc.toNat 4 ++ idb p.conf) ++ (v8b p.members ++ (v8b p.count ++ idb p.promise ++ v8b p.wanted ++ put (bit p.ready) 1 ++ put p.epoch.toNat 4 ++ put p.round.toNat 4 ++ p.newest.bytes ++ p.older.bytes ++ put p.relayOf.toNat 1 ++ put p.relayRound.toNat 4 ++ p.relay.bytes ++ r)) by simp only [Pkt.body, List.append_assoc]]
    exact seg_at (by simp [put_length, idb_length]) (v8b_length _)
  · rw [show p.body ++ r = (put p.src.toNat 1 ++ put p.inc.toNat 4 ++ idb p.conf ++ v8b p.members) ++ (v8b p.count ++ (idb p.promise ++ v8b p.wanted ++ put (bit p.ready) 1 ++ put p.epoch.toNat 4 ++ put p.round.toNat 4 ++ p.newest.bytes ++ p.older.bytes ++ put p.relayOf.toNat 1 ++ put p.relayRound.toNat 4 ++ p.relay.bytes ++ r)) by simp only [Pkt.body, List.append_assoc]]
    exact seg_at (by simp [put_length, idb_length, v8b_length]) (v8b_length _)
  · rw [show p.body ++ r = (put p.src.toNat 1 ++ put p.inc.toNat 4 ++ idb p.conf ++ v8b p.members ++ v8b p.count) ++ (idb p.promise ++ (v8b p.wanted ++ put (bit p.ready) 1 ++ put p.epoch.toNat 4 ++ put p.round.toNat 4 ++ p.newest.bytes ++ p.older.bytes ++ put p.relayOf.toNat 1 ++ put p.relayRound.toNat 4 ++ p.relay.bytes ++ r)) by simp only [Pkt.body, List.append_assoc]]
    exact seg_at (by simp [put_length, idb_length, v8b_length]) (idb_length _)
  · rw [show p.body ++ r = (put p.src.toNat 1 ++ put p.inc.toNat 4 ++ idb p.conf ++ v8b p.members ++ v8b p.count ++ idb p.promise) ++ (v8b p.wanted ++ (put (bit p.ready) 1 ++ put p.epoch.toNat 4 ++ put p.round.toNat 4 ++ p.newest.bytes ++ p.older.bytes ++ put p.relayOf.toNat 1 ++ put p.relayRound.toNat 4 ++ p.relay.bytes ++ r)) by simp only [Pkt.body, List.append_assoc]]
    exact seg_at (by simp [put_length, idb_length, v8b_length]) (v8b_length _)
  · rw [show p.body ++ r = (put p.src.toNat 1 ++ put p.inc.toNat 4 ++ idb p.conf ++ v8b p.members ++ v8b p.count ++ idb p.promise ++ v8b p.wanted) ++ (put (bit p.ready) 1 ++ (put p.epoch.toNat 4 ++ put p.round.toNat 4 ++ p.newest.bytes ++ p.older.bytes ++ put p.relayOf.toNat 1 ++ put p.relayRound.toNat 4 ++ p.relay.bytes ++ r)) by simp only [Pkt.body, List.append_assoc]]
    exact seg_at (by simp [put_length, idb_length, v8b_length]) (put_length _ _)
  · rw [show p.body ++ r = (put p.src.toNat 1 ++ put p.inc.toNat 4 ++ idb p.conf ++ v8b p.members ++ v8b p.count ++ idb p.promise ++ v8b p.wanted ++ put (bit p.ready) 1) ++ (put p.epoch.toNat 4 ++ (put p.round.toNat 4 ++ p.newest.bytes ++ p.older.bytes ++ put p.relayOf.toNat 1 ++ put p.relayRound.toNat 4 ++ p.relay.bytes ++ r)) by simp only [Pkt.body, List.append_assoc]]
    exact seg_at (by simp [put_length, idb_length, v8b_length]) (put_length _ _)
  · rw [show p.body ++ r = (put p.src.toNat 1 ++ put p.inc.toNat 4 ++ idb p.conf ++ v8b p.members ++ v8b p.count ++ idb p.promise ++ v8b p.wanted ++ put (bit p.ready) 1 ++ put p.epoch.toNat 4) ++ (put p.round.toNat 4 ++ (p.newest.bytes ++ p.older.bytes ++ put p.relayOf.toNat 1 ++ put p.relayRound.toNat 4 ++ p.relay.bytes ++ r)) by simp only [Pkt.body, List.append_assoc]]
    exact seg_at (by simp [put_length, idb_length, v8b_length]) (put_length _ _)
  · rw [show p.body ++ r = (put p.src.toNat 1 ++ put p.inc.toNat 4 ++ idb p.conf ++ v8b p.members ++ v8b p.count ++ idb p.promise ++ v8b p.wanted ++ put (bit p.ready) 1 ++ put p.epoch.toNat 4 ++ put p.round.toNat 4) ++ (p.newest.bytes ++ (p.older.bytes ++ put p.relayOf.toNat 1 ++ put p.relayRound.toNat 4 ++ p.relay.bytes ++ r)) by simp only [Pkt.body, List.append_assoc]]
    exact seg_at (by simp [put_length, idb_length, v8b_length]) l1
  · rw [show p.body ++ r = (put p.src.toNat 1 ++ put p.inc.toNat 4 ++ idb p.conf ++ v8b p.members ++ v8b p.count ++ idb p.promise ++ v8b p.wanted ++ put (bit p.ready) 1 ++ put p.epoch.toNat 4 ++ put p.round.toNat 4 ++ p.newest.bytes) ++ (p.older.bytes ++ (put p.relayOf.toNat 1 ++ put p.relayRound.toNat 4 ++ p.relay.bytes ++ r)) by simp only [Pkt.body, List.append_assoc]]
    exact seg_at (by simp [put_length, idb_length, v8b_length, l1]) l2
  · rw [show p.body ++ r = (put p.src.toNat 1 ++ put p.inc.toNat 4 ++ idb p.conf ++ v8b p.members ++ v8b p.count ++ idb p.promise ++ v8b p.wanted ++ put (bit p.ready) 1 ++ put p.epoch.toNat 4 ++ put p.round.toNat 4 ++ p.newest.bytes ++ p.older.bytes) ++ (put p.relayOf.toNat 1 ++ (put p.relayRound.toNat 4 ++ p.relay.bytes ++ r)) by simp only [Pkt.body, List.append_assoc]]
    exact seg_at (by simp [put_length, idb_length, v8b_length, l1, l2]) (put_length _ _)
  · rw [show p.body ++ r = (put p.src.toNat 1 ++ put p.inc.toNat 4 ++ idb p.conf ++ v8b p.members ++ v8b p.count ++ idb p.promise ++ v8b p.wanted ++ put (bit p.ready) 1 ++ put p.epoch.toNat 4 ++ put p.round.toNat 4 ++ p.newest.bytes ++ p.older.bytes ++ put p.relayOf.toNat 1) ++ (put p.relayRound.toNat 4 ++ (p.relay.bytes ++ r)) by simp only [Pkt.body, List.append_assoc]]
    exact seg_at (by simp [put_length, idb_length, v8b_length, l1, l2]) (put_length _ _)
  · rw [show p.body ++ r = (put p.src.toNat 1 ++ put p.inc.toNat 4 ++ idb p.conf ++ v8b p.members ++ v8b p.count ++ idb p.promise ++ v8b p.wanted ++ put (bit p.ready) 1 ++ put p.epoch.toNat 4 ++ put p.round.toNat 4 ++ p.newest.bytes ++ p.older.bytes ++ put p.relayOf.toNat 1 ++ put p.relayRound.toNat 4) ++ (p.relay.bytes ++ r) by simp only [Pkt.body, List.append_assoc]]
    exact seg_at (by simp [put_length, idb_length, v8b_length, l1, l2]) l3

theorem idAt_of {s : List UInt8} {a : Nat} {x : Id3} (h : seg s a 9 = idb x) (hx : x.Ok) (h8 : x.coord ≤ 7) : idAt s a = x := by
  obtain ⟨⟨e0, e1⟩, ⟨c0, _⟩, ⟨i0, i1⟩⟩ := hx
  have p0 : seg s a 4 = put x.epoch.toNat 4 := by
    have := seg_seg s (a := a) (n := 9) (b := 0) (m := 4) (by decide)
    rw [Nat.add_zero] at this
    rw [← this, h, idb, List.append_assoc]
    exact seg_at (x := []) rfl (put_length _ _)
  have p1 : seg s (a + 4) 1 = put x.coord.toNat 1 := by
    rw [← seg_seg s (a := a) (n := 9) (b := 4) (m := 1) (by decide), h, idb, List.append_assoc]
    exact seg_at (put_length _ _) (put_length _ _)
  have p2 : seg s (a + 5) 4 = put x.inc.toNat 4 := by
    rw [← seg_seg s (a := a) (n := 9) (b := 5) (m := 4) (by decide), h, idb]
    have := seg_at (x := put x.epoch.toNat 4 ++ put x.coord.toNat 1) (y := put x.inc.toNat 4) (z := []) (a := 5) (n := 4) (by simp [put_length]) (put_length _ _)
    rwa [List.append_nil] at this
  obtain ⟨e, c, i⟩ := x
  simp only [idAt, num, p0, p1, p2] at *
  rw [num_put e0 (by omega), num_put c0 (by omega), num_put i0 (by omega)]

theorem v8At_of {s : List UInt8} {a : Nat} {v : V8} (h : seg s a 32 = v8b v) (hv : v.Ok) : v8At s a = v := by
  obtain ⟨⟨a0, b0⟩, ⟨a1, b1⟩, ⟨a2, b2⟩, ⟨a3, b3⟩, ⟨a4, b4⟩, ⟨a5, b5⟩, ⟨a6, b6⟩, ⟨a7, b7⟩⟩ := hv
  rw [v8b_eq] at h
  have q : ∀ (x y z : List UInt8) (b : Nat), b + 4 ≤ 32 → x.length = b → y.length = 4 → seg s a 32 = x ++ (y ++ z) → seg s (a + b) 4 = y := by
    intro x y z b hb hx hy he
    rw [← seg_seg s (a := a) (n := 32) (b := b) (m := 4) hb, he]
    exact seg_at hx hy
  have p0 := q [] (put v.n0.toNat 4) _ 0 (by decide) rfl (put_length _ _) (by rw [h, List.nil_append])
  have p1 := q (put v.n0.toNat 4) (put v.n1.toNat 4) _ 4 (by decide) (put_length _ _) (put_length _ _) h
  have p2 := q (put v.n0.toNat 4 ++ put v.n1.toNat 4) (put v.n2.toNat 4) (put v.n3.toNat 4 ++ (put v.n4.toNat 4 ++ (put v.n5.toNat 4 ++ (put v.n6.toNat 4 ++ put v.n7.toNat 4)))) 8 (by decide) (by simp [put_length]) (put_length _ _) (by rw [h]; simp only [List.append_assoc])
  have p3 := q (put v.n0.toNat 4 ++ put v.n1.toNat 4 ++ put v.n2.toNat 4) (put v.n3.toNat 4) (put v.n4.toNat 4 ++ (put v.n5.toNat 4 ++ (put v.n6.toNat 4 ++ put v.n7.toNat 4))) 12 (by decide) (by simp [put_length]) (put_length _ _) (by rw [h]; simp only [List.append_assoc])
  have p4 := q (put v.n0.toNat 4 ++ put v.n1.toNat 4 ++ put v.n2.toNat 4 ++ put v.n3.toNat 4) (put v.n4.toNat 4) (put v.n5.toNat 4 ++ (put v.n6.toNat 4 ++ put v.n7.toNat 4)) 16 (by decide) (by simp [put_length]) (put_length _ _) (by rw [h]; simp only [List.append_assoc])
  have p5 := q (put v.n0.toNat 4 ++ put v.n1.toNat 4 ++ put v.n2.toNat 4 ++ put v.n3.toNat 4 ++ put v.n4.toNat 4) (put v.n5.toNat 4) (put v.n6.toNat 4 ++ put v.n7.toNat 4) 20 (by decide) (by simp [put_length]) (put_length _ _) (by rw [h]; simp only [List.append_assoc])
  have p6 := q (put v.n0.toNat 4 ++ put v.n1.toNat 4 ++ put v.n2.toNat 4 ++ put v.n3.toNat 4 ++ put v.n4.toNat 4 ++ put v.n5.toNat 4) (put v.n6.toNat 4) (put v.n7.toNat 4) 24 (by decide) (by simp [put_length]) (put_length _ _) (by rw [h]; simp only [List.append_assoc])
  have p7 := q (put v.n0.toNat 4 ++ put v.n1.toNat 4 ++ put v.n2.toNat 4 ++ put v.n3.toNat 4 ++ put v.n4.toNat 4 ++ put v.n5.toNat 4 ++ put v.n6.toNat 4) (put v.n7.toNat 4) [] 28 (by decide) (by simp [put_length]) (put_length _ _) (by rw [h]; simp only [List.append_assoc, List.append_nil])
  obtain ⟨n0, n1, n2, n3, n4, n5, n6, n7⟩ := v
  simp only [Nat.add_zero] at *
  simp only [v8At, num, p0, p1, p2, p3, p4, p5, p6, p7]
  rw [num_put a0 (by omega), num_put a1 (by omega), num_put a2 (by omega), num_put a3 (by omega), num_put a4 (by omega), num_put a5 (by omega), num_put a6 (by omega), num_put a7 (by omega)]

theorem pktParts_of {p : Pkt} {s : List UInt8} (h : Parts p s) (hm : p.may = true) (ho : p.Ok) : pktParts s = some p := by
  obtain ⟨⟨m0, m1, m2, m3⟩, h1, h2, h3⟩ := Pkt.may_iff.1 hm
  have e : pktOf s p.newest p.older p.relay = p := by
    unfold pktOf
    have hr : num s 119 1 = bit p.ready := by
      rw [num, h.ready, val_put]
      cases p.ready <;> rfl
    rw [idAt_of h.conf ho.conf m2, v8At_of h.members ho.members, v8At_of h.count ho.count, idAt_of h.promise ho.promise m3, v8At_of h.wanted ho.wanted, hr]
    simp only [num, h.src, h.inc, h.epoch, h.round, h.relayOf, h.relayRound]
    have := ho.src; have := ho.inc; have := ho.epoch; have := ho.round; have := ho.relayOf; have := ho.relayRound
    unfold U32 at *
    rw [num_put (by omega) (by omega), num_put (by omega) (by omega), num_put (by omega) (by omega), num_put (by omega) (by omega), num_put (by omega) (by omega), num_put (by omega) (by omega)]
    have hb : decide (((bit p.ready : Nat) : Int) = 1) = p.ready := by cases p.ready <;> rfl
    rw [hb]
  unfold pktParts
  rw [h.newest, h.older, h.relay, frDec_bytes h1 ho.newest, frDec_bytes h2 ho.older, frDec_bytes h3 ho.relay]
  simp only [e]
  rw [if_pos]
  refine ⟨?_, hm⟩
  rw [num, h.ready, val_put]
  cases p.ready <;> decide

theorem pktDec_bytes {p : Pkt} (hm : p.may = true) (ho : p.Ok) : pktDec p.bytes = .ok p := by
  have hc : crcOk p.bytes = true := crcOk_seal _
  unfold pktDec
  rw [if_pos (Pkt.bytes_length hm), if_pos hc, pktParts_of (s := p.bytes) (Pkt.parts hm _) hm ho]

end Go.Proofs.YthapghhmeicbnaaDoor
