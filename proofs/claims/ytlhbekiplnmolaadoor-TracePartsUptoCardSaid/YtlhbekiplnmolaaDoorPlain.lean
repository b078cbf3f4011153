/- Bytes: a number's field, a text's field; plain lists, no program in sight. -/
namespace Go.Proofs.YtlhbekiplnmolaaDoor
theorem snoc_ind {α : Type} {P : List α → Prop} (h0 : P []) (h1 : ∀ l b, P l → P (l ++ [b])) (l : List α) : P l := by
  have h : ∀ m : List α, P m.reverse := by
    intro m
    induction m with
    | nil => exact h0
    | cons b m ih => rw [List.reverse_cons]; exact h1 _ _ ih
  have := h l.reverse
  rwa [List.reverse_reverse] at this
/-- A number's field: its last w bytes, the greatest first. -/
def put (n : Nat) : Nat → List UInt8
  | 0 => []
  | w + 1 => put (n / 256) w ++ [UInt8.ofNat n]
/-- What number bytes are. -/
def val (l : List UInt8) : Nat := l.foldl (fun a b => a * 256 + b.toNat) 0

theorem put_length (n w : Nat) : (put n w).length = w := by
  induction w generalizing n with
  | zero => rfl
  | succ w ih => simp [put, ih]
theorem val_snoc (l : List UInt8) (b : UInt8) : val (l ++ [b]) = val l * 256 + b.toNat := by simp [val]
theorem val_nil : val [] = 0 := rfl
theorem val_put (n w : Nat) : val (put n w) = n % 256 ^ w := by
  induction w generalizing n with
  | zero => simp [put, val, Nat.mod_one]
  | succ w ih =>
    rw [put, val_snoc, ih, UInt8.toNat_ofNat']
    have e : 256 ^ (w + 1) = 256 * 256 ^ w := by rw [Nat.pow_succ, Nat.mul_comm]
    rw [e, Nat.mod_mul]
    omega
theorem val_lt (l : List UInt8) : val l < 256 ^ l.length := by
  induction l using snoc_ind with
  | h0 => simp [val]
  | h1 l b ih =>
    rw [val_snoc, List.length_append, List.length_singleton, Nat.pow_succ]
    have := b.toNat_lt
    omega
theorem put_val (l : List UInt8) : put (val l) l.length = l := by
  induction l using snoc_ind with
  | h0 => rfl
  | h1 l b ih =>
    rw [List.length_append, List.length_singleton, put, val_snoc]
    have hb := b.toNat_lt
    have e : (val l * 256 + b.toNat) / 256 = val l := by omega
    rw [e, ih]
    congr 1
    congr 1
    apply UInt8.toNat.inj
    rw [UInt8.toNat_ofNat']
    omega
/-- The other end: a field of one byte more begins with the byte that stands higher. -/
theorem put_cons (n w : Nat) : put n (w + 1) = UInt8.ofNat (n / 256 ^ w) :: put n w := by
  induction w generalizing n with
  | zero => simp [put]
  | succ w ih =>
    rw [put, ih, put, List.cons_append, Nat.div_div_eq_div_mul, Nat.pow_succ, Nat.mul_comm (256 ^ w) 256]
theorem put_inj {n m w : Nat} (hn : n < 256 ^ w) (hm : m < 256 ^ w) (h : put n w = put m w) : n = m := by
  have := congrArg val h
  rw [val_put, val_put, Nat.mod_eq_of_lt hn, Nat.mod_eq_of_lt hm] at this
  exact this
theorem put_mod (n w : Nat) : put (n % 256 ^ w) w = put n w := by
  have h1 : val (put n w) = n % 256 ^ w := val_put n w
  have h2 := put_val (put n w)
  rw [put_length, h1] at h2
  exact h2

/-- A text's field: its length, it, bytes 0. -/
def tput (s : List UInt8) (w : Nat) : List UInt8 := put s.length 1 ++ s ++ List.replicate (w - s.length) 0
/-- What text bytes begin with, and what is left. -/
def ttake (s : List UInt8) (w : Nat) : Option (List UInt8 × List UInt8) :=
  match s with
  | [] => none
  | n :: rest => if n.toNat ≤ w ∧ w ≤ rest.length ∧ ((rest.take w).drop n.toNat).all (· == 0) = true then some (rest.take n.toNat, rest.drop w) else none

theorem put_one (n : Nat) : put n 1 = [UInt8.ofNat n] := rfl
theorem tput_length {s : List UInt8} {w : Nat} (h : s.length ≤ w) : (tput s w).length = w + 1 := by
  simp [tput, put_length]
  omega
theorem all_zero_iff {l : List UInt8} : l.all (· == 0) = true ↔ l = List.replicate l.length 0 := by
  induction l with
  | nil => simp
  | cons b l ih =>
    simp only [List.all_cons, Bool.and_eq_true, beq_iff_eq, List.length_cons, List.replicate_succ, List.cons.injEq]
    rw [ih]
theorem ttake_tput {s r : List UInt8} {w : Nat} (h : s.length ≤ w) (hw : w ≤ 255) : ttake (tput s w ++ r) w = some (s, r) := by
  have e : tput s w ++ r = UInt8.ofNat s.length :: (s ++ (List.replicate (w - s.length) 0 ++ r)) := by simp [tput, put_one]
  have hn : (UInt8.ofNat s.length).toNat = s.length := by rw [UInt8.toNat_ofNat']; omega
  rw [e]
  simp only [ttake, hn]
  have h1 : (s ++ (List.replicate (w - s.length) 0 ++ r)).take w = s ++ List.replicate (w - s.length) 0 := by
    rw [← List.append_assoc, List.take_append_of_le_length (by simp; omega), List.take_of_length_le (by simp; omega)]
  have h2 : (s ++ (List.replicate (w - s.length) 0 ++ r)).drop w = r := by
    rw [← List.append_assoc, List.drop_append_of_le_length (by simp; omega), List.drop_eq_nil_of_le (by simp; omega), List.nil_append]
  rw [h1, h2]
  rw [if_pos ⟨h, by simp; omega, by simp⟩]
  simp
theorem tput_ttake {s t r : List UInt8} {w : Nat} (h : ttake s w = some (t, r)) : t.length ≤ w ∧ tput t w ++ r = s ∧ w + 1 ≤ s.length := by
  cases s with
  | nil => simp [ttake] at h
  | cons n rest =>
    simp only [ttake] at h
    split at h
    · rename_i hc
      obtain ⟨h1, h2, h3⟩ := hc
      simp only [Option.some.injEq, Prod.mk.injEq] at h
      obtain ⟨rfl, rfl⟩ := h
      have hl : (rest.take n.toNat).length = n.toNat := by simp; omega
      refine ⟨by omega, ?_, by simp; omega⟩
      rw [tput, hl, put_one]
      have e0 : UInt8.ofNat n.toNat = n := by simp
      rw [e0]
      rw [all_zero_iff] at h3
      have hz : ((rest.take w).drop n.toNat).length = w - n.toNat := by simp; omega
      rw [hz] at h3
      rw [← h3]
      have e1 : rest.take n.toNat = (rest.take w).take n.toNat := by rw [List.take_take, Nat.min_eq_left h1]
      rw [e1]
      simp only [List.append_assoc, List.cons_append, List.nil_append]
      rw [← List.append_assoc ((rest.take w).take n.toNat), List.take_append_drop, List.take_append_drop]
    · cases h
/-- The other way to say it: what stands ahead is the text's own field. -/
theorem ttake_by_put {n : UInt8} {rest : List UInt8} {w : Nat} (h1 : n.toNat ≤ w) (h2 : w ≤ rest.length) :
    (tput (rest.take n.toNat) w = (n :: rest).take (w + 1)) ↔ ((rest.take w).drop n.toNat).all (· == 0) = true := by
  have hl : (rest.take n.toNat).length = n.toNat := by simp; omega
  have e1 : rest.take n.toNat = (rest.take w).take n.toNat := by rw [List.take_take, Nat.min_eq_left h1]
  rw [tput, hl, put_one, List.take_succ_cons, all_zero_iff]
  have e0 : UInt8.ofNat n.toNat = n := by simp
  have hz : ((rest.take w).drop n.toNat).length = w - n.toNat := by simp; omega
  rw [e0, hz, List.append_assoc, List.singleton_append, List.cons.injEq, e1]
  constructor
  · rintro ⟨_, h⟩
    have h' := congrArg (List.drop n.toNat) h
    rw [List.drop_append_of_le_length (by simp; omega), List.drop_eq_nil_of_le (by simp; omega), List.nil_append] at h'
    exact h'.symm
  · intro h
    refine ⟨rfl, ?_⟩
    rw [← h, List.take_append_drop]

/-- An entry. -/
structure Ent where
  kind : Int
  service : Int
  group : Int
  session : Int
  number : Int
  text : ByteArray
  deriving DecidableEq

/-- Bytes as the model's own kind. -/
def bs (l : List UInt8) : ByteArray := ⟨l.toArray⟩
theorem bs_data (s : ByteArray) : bs s.data.toList = s := by obtain ⟨⟨l⟩⟩ := s; rfl
theorem bs_list (l : List UInt8) : (bs l).data.toList = l := rfl
theorem bs_size (l : List UInt8) : (bs l).size = l.length := rfl
theorem bs_inj {l m : List UInt8} : bs l = bs m ↔ l = m := ⟨fun h => by have := congrArg (fun s : ByteArray => s.data.toList) h; simpa [bs_list] using this, fun h => by rw [h]⟩
theorem bs_append (l m : List UInt8) : bs l ++ bs m = bs (l ++ m) := by
  apply ByteArray.ext
  simp [bs]
theorem bs_cat (s t : ByteArray) : s ++ t = bs (s.data.toList ++ t.data.toList) := by
  rw [← bs_append, bs_data, bs_data]
theorem bs_extract (l : List UInt8) (a b : Nat) : (bs l).extract a b = bs ((l.drop a).take (b - a)) := by
  apply ByteArray.ext
  apply Array.toList_inj.1
  simp [bs, List.extract_eq_take_drop]

/-- May an entry be? -/
def Ent.may (e : Ent) : Bool :=
  if e.kind = 0 then decide (e.service = 0 ∧ e.group = 0 ∧ e.session = 0 ∧ e.number = 0 ∧ e.text.size = 0)
  else if e.group < 0 ∨ e.group > 7 ∨ e.session > 65535 ∨ e.number > 4294967295 ∨ e.text.size > 16 then false
  else if e.kind = 1 then decide (e.service ≥ 0 ∧ e.service ≤ 3)
  else decide ((e.kind = 2 ∨ e.kind = 3) ∧ e.service = 2 ∧ e.text.size = 0)

def Ent.zero : Ent := ⟨0, 0, 0, 0, 0, bs []⟩

/-- An entry's bytes. -/
def Ent.bytes (e : Ent) : List UInt8 :=
  put e.kind.toNat 1 ++ put e.service.toNat 1 ++ put e.group.toNat 1 ++ put e.session.toNat 2 ++ put e.number.toNat 4 ++ tput e.text.data.toList 16 ++ [0, 0]

/-- What entry bytes are. -/
def entDec (s : List UInt8) : Option Ent :=
  if s.length = 28 then
    match ttake (s.drop 9) 16 with
    | some (t, r) =>
      let e : Ent := ⟨val (s.take 1), val ((s.drop 1).take 1), val ((s.drop 2).take 1), val ((s.drop 3).take 2), val ((s.drop 5).take 4), bs t⟩
      if r = [0, 0] ∧ e.may = true then some e else none
    | none => none
  else none

theorem Ent.may_bounds {e : Ent} (h : e.may = true) : 0 ≤ e.kind ∧ e.kind ≤ 3 ∧ 0 ≤ e.service ∧ e.service ≤ 3 ∧ 0 ≤ e.group ∧ e.group ≤ 7 ∧ e.session ≤ 65535 ∧ e.number ≤ 4294967295 ∧ e.text.size ≤ 16 := by
  unfold Ent.may at h
  split at h
  · have := of_decide_eq_true h
    omega
  · split at h
    · cases h
    · split at h
      · have := of_decide_eq_true h
        omega
      · have := of_decide_eq_true h
        omega

theorem Ent.bytes_length {e : Ent} (h : e.text.size ≤ 16) : e.bytes.length = 28 := by
  have : e.text.data.toList.length ≤ 16 := h
  simp only [Ent.bytes, List.length_append, put_length, tput_length this]
  rfl

theorem cut {α : Type} {a b : List α} {n : Nat} (h : a.length = n) : (a ++ b).take n = a ∧ (a ++ b).drop n = b := by
  subst h; simp

theorem entDec_bytes {e : Ent} (h : e.may = true) (hs : 0 ≤ e.session) (hn : 0 ≤ e.number) : entDec e.bytes = some e := by
  obtain ⟨k0, k1, s0, s1, g0, g1, hse, hnu, ht⟩ := Ent.may_bounds h
  have htl : e.text.data.toList.length ≤ 16 := ht
  have e0 : e.bytes = put e.kind.toNat 1 ++ (put e.service.toNat 1 ++ (put e.group.toNat 1 ++ (put e.session.toNat 2 ++ (put e.number.toNat 4 ++ (tput e.text.data.toList 16 ++ [0, 0]))))) := by
    simp only [Ent.bytes, List.append_assoc]
  have c1 := cut (b := put e.service.toNat 1 ++ (put e.group.toNat 1 ++ (put e.session.toNat 2 ++ (put e.number.toNat 4 ++ (tput e.text.data.toList 16 ++ [0, 0]))))) (put_length e.kind.toNat 1)
  have c2 := cut (b := put e.group.toNat 1 ++ (put e.session.toNat 2 ++ (put e.number.toNat 4 ++ (tput e.text.data.toList 16 ++ [0, 0])))) (put_length e.service.toNat 1)
  have c3 := cut (b := put e.session.toNat 2 ++ (put e.number.toNat 4 ++ (tput e.text.data.toList 16 ++ [0, 0]))) (put_length e.group.toNat 1)
  have c4 := cut (b := put e.number.toNat 4 ++ (tput e.text.data.toList 16 ++ [0, 0])) (put_length e.session.toNat 2)
  have c5 := cut (b := tput e.text.data.toList 16 ++ [0, 0]) (put_length e.number.toNat 4)
  have d0 := congrArg (List.take 1) e0
  rw [c1.1] at d0
  have d1 := congrArg (List.drop 1) e0
  rw [c1.2] at d1
  have d2 := congrArg (List.drop 1) d1
  rw [c2.2, List.drop_drop] at d2
  have d3 := congrArg (List.drop 1) d2
  rw [c3.2, List.drop_drop] at d3
  have d5 := congrArg (List.drop 2) d3
  rw [c4.2, List.drop_drop] at d5
  have d9 := congrArg (List.drop 4) d5
  rw [c5.2, List.drop_drop] at d9
  unfold entDec
  rw [if_pos (Ent.bytes_length ht), d9, ttake_tput htl (by decide), d1, d2, d3, d5, c2.1, c3.1, c4.1, c5.1, d0]
  simp only [val_put, bs_data]
  have f : (⟨((e.kind.toNat % 256 ^ 1 : Nat) : Int), ((e.service.toNat % 256 ^ 1 : Nat) : Int), ((e.group.toNat % 256 ^ 1 : Nat) : Int), ((e.session.toNat % 256 ^ 2 : Nat) : Int), ((e.number.toNat % 256 ^ 4 : Nat) : Int), e.text⟩ : Ent) = e := by
    obtain ⟨a, b, c, d, g, t⟩ := e
    simp only at *
    congr <;> omega
  rw [f]
  simp [h]

theorem entDec_some {s : List UInt8} {e : Ent} (h : entDec s = some e) : e.may = true ∧ e.bytes = s ∧ 0 ≤ e.session ∧ 0 ≤ e.number ∧ s.length = 28 := by
  unfold entDec at h
  split at h
  · rename_i hl
    split at h
    · rename_i t r ht
      simp only at h
      split at h
      · rename_i hc
        have h := Option.some.inj h
        subst h
        refine ⟨hc.2, ?_, by simp, by simp, hl⟩
        obtain ⟨rfl, _⟩ := hc
        obtain ⟨h1, h2, h3⟩ := tput_ttake ht
        simp only [Ent.bytes, Int.toNat_natCast, bs_list]
        have p : ∀ (a n : Nat), a + n ≤ 28 → put (val ((s.drop a).take n)) n = (s.drop a).take n := by
          intro a n han
          have := put_val ((s.drop a).take n)
          rwa [show ((s.drop a).take n).length = n by simp; omega] at this
        have p0 : put (val (s.take 1)) 1 = s.take 1 := p 0 1 (by decide)
        rw [p0, p 1 1 (by decide), p 2 1 (by decide), p 3 2 (by decide), p 5 4 (by decide)]
        simp only [List.append_assoc]
        rw [h2]
        have q : ∀ (a n : Nat), (s.drop a).take n ++ s.drop (a + n) = s.drop a := by
          intro a n
          rw [← List.drop_drop]
          exact List.take_append_drop n _
        rw [q 5 4, q 3 2, q 2 1, q 1 1]
        exact List.take_append_drop 1 s
      · cases h
    · cases h
  · cases h

end Go.Proofs.YtlhbekiplnmolaaDoor
