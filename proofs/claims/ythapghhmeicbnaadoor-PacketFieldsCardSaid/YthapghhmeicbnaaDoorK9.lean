/- Strings that are built: strings.Builder. -/
import Derived.Test.YthapghhmeicbnaaDoorK8
import Derived.Lib.AppendStr
import Derived.Lib.UnsafeStr
set_option linter.unusedVariables false
set_option linter.unusedSimpArgs false
namespace Go.Proofs.YthapghhmeicbnaaDoor
open Go.RowKit

section
variable {P : Program} {fn : Func} {w0 : World} {k : List KI} {ρ : Env} {H : Hp} {R : Value → Hp → Prop} {ops : Array Oper} {i : Nat} {todo : List Nat} {dst : Option Tmp} {d : Tmp}

theorem run_retS {c : Code} {v : Value} {H' : Hp} (l : List Nat) (hc : Code.kind c = .ret) (hv : ∀ (a : Act) (w : World), EnvOk ρ a.tmps → Sat w0 H w → (results fn a.tmps).run P w = .ok v w) (hH : HpSub H' l H) (hl : l.Nodup) (h : R v H') : Run P fn w0 (.code c :: k) ρ H R := by
  cases c <;> simp [Code.kind] at hc
  exact fun a w h1 h2 h3 h4 => wp_ret (kwp_ret ⟨h3, v, hv a w h1 h4, v, H', rfl, h4.pick l hl hH.ok, h⟩)

theorem appendStr_where {w w' : World} {t u ty e : TypeId} {ti : TypeInfo} {n cap : Nat} {A : Option Addr} {xs : List Value} {s : ByteArray} {v' : Value} {base : Nat}
    (ht : P.underlying t = some (.slice e)) (hu : P.underlying u = some .string) (hi : P.info? e = some ti) (hz : ti.zero = some (.int .u8 0)) (hsize : ti.size = 1) (hby : ti.bytes = 1)
    (hown : w.ownsRow base e 1 (.slice A n cap) n xs) (hbytes : n + s.size ≤ 140737488355328)
    (hr : (Builtin.append_ #[t, u] ty #[.slice A n cap, .string s]).run P w = .ok v' w') : v'.ownBlock = A.map (·.block) ∨ v'.ownBlock = some w.heap.size := by
  have hxl : xs.length = n := by simpa using hown.1
  rcases hown.2 with ⟨hv, rfl⟩ | ⟨g, cap', cur, hv, hbg, hg, hnc, hcm, hcs, htake⟩
  · obtain ⟨rfl, _, rfl⟩ := Value.slice.inj hv
    by_cases hm : s.size = 0
    · left
      have hf := Lib.run_firstCells_string (P := P) w 1 s
      have hn : Lib.strCells s = [] := List.eq_nil_of_length_eq_zero (by rw [Lib.strCells_length]; exact hm)
      rw [hm, hn] at hf
      have : (Builtin.append_ #[t, u] ty #[.slice none 0 0, .string s]).run P w = .ok (.slice none 0 0) w := by
        simp [Builtin.append_, run_underlying ht, run_underlying hu, sizeOf, typeInfo, hi, hsize, Builtin.lenOf, hm, hf]
      rw [this] at hr
      injection hr with h1 h2
      subst h1
      rfl
    · right
      rw [run_append_nil_string (P := P) w t u ty e ti (.int .u8 0) ht hu hi hz s (by omega) (by omega) (by rw [hby]; omega)] at hr
      injection hr with h1 h2
      subst h1
      rfl
  · obtain ⟨rfl, _, rfl⟩ := Value.slice.inj hv
    by_cases hroom : n + s.size ≤ cap
    · left
      rw [Lib.run_append_room_string (P := P) w t u ty e ti ht hu hi hsize g n cap cur hg s hroom (by rw [hcs]; omega)] at hr
      injection hr with h1 h2
      subst h1
      rfl
    · right
      have holds : ∀ j u, xs[j]? = some u → w.cell? ((⟨g, 0, none⟩ : Addr).add j) = some u := hown.cells (g := g) rfl
      rw [Lib.run_append_grow_string (P := P) w t u ty e ti (.int .u8 0) ht hu hi hz ⟨g, 0, none⟩ n cap xs (by rw [hsize]; simpa using hxl) holds s (by omega) (by omega) (by rw [hby]; exact growslice_fits (by omega) (by omega))] at hr
      injection hr with h1 h2
      subst h1
      rfl

/-- A string's bytes appended to a row of the call's own. -/
theorem run_appendStr {t u ty e : TypeId} {ti : TypeInfo} {j n cap : Nat} {A : Option Addr} {xs : List Value} {s : ByteArray} (h : step fn.ntmps ops i ρ = some (some d, vN (Builtin.append_ #[t, u] ty #[.slice A n cap, .string s])))
    (ht : P.underlying t = some (.slice e)) (hu : P.underlying u = some .string) (hi : P.info? e = some ti) (hz : ti.zero = some (.int .u8 0)) (hsize : ti.size = 1) (hby : ti.bytes = 1)
    (hH : H[j]? = some (.row A cap e 1 n xs)) (hbytes : n + s.size ≤ 140737488355328)
    (hk : ∀ A' cap', Run P fn w0 (.ops ops todo :: k) ((d, .slice A' (n + s.size) cap') :: ρ) (H.set j (.row A' cap' e 1 (n + s.size) (xs ++ Lib.strCells s))) R) : Run P fn w0 (.ops ops (i :: todo) :: k) ρ H R := by
  refine run_val h fun w h4 => ?_
  have hrow := h4.mem j _ hH
  obtain ⟨v', w', hr, hown, hg, _⟩ := Lib.run_append_own_string (P := P) w w0.heap.size t u ty e ti ht hu hi hz hsize hby (.slice A n cap) n xs hrow s (by unfold maxLen; omega) hbytes h4.below.size
  obtain ⟨A', cap', rfl, hob⟩ := slice_of_row hown
  have hwh := appendStr_where ht hu hi hz hsize hby hrow hbytes hr
  refine ⟨_, w', _, vN_run hr, ?_, hk A' cap'⟩
  have hAb : (Value.slice A n cap).ownBlock = A.map (·.block) := by cases A <;> rfl
  rw [hAb] at hg
  rw [hob] at hwh
  exact h4.grownRow hH hg hown hwh

theorem run_equalIn_ptr (D : Nat) {t e : TypeId} (ht : P.underlying t = some (.pointer e)) (p : Option Addr) (w : World) : (Op.equalIn (D + 1) t (.pointer p) (.pointer none)).run P w = .ok p.isNone w := by
  cases p <;> simp [Op.equalIn, run_underlying ht]
theorem run_equalIn_self (D : Nat) {t e : TypeId} {n : Nat} (ht : P.underlying t = some (.pointer e)) (hn : ∀ w, (sizeOf e).run P w = .ok n w) (h0 : n ≠ 0) (a : Addr) (w : World) : (Op.equalIn (D + 1) t (.pointer (some a)) (.pointer (some a))).run P w = .ok true w := by
  simp [Op.equalIn, run_underlying ht, hn, h0, sameAddr]
theorem run_equal_ptr {t e : TypeId} (ht : P.underlying t = some (.pointer e)) (p : Option Addr) (w : World) : (Op.equal t (.pointer p) (.pointer none)).run P w = .ok p.isNone w :=
  run_equalIn_ptr 9999 ht p w
theorem run_equal_self {t e : TypeId} {n : Nat} (ht : P.underlying t = some (.pointer e)) (hn : ∀ w, (sizeOf e).run P w = .ok n w) (h0 : n ≠ 0) (a : Addr) (w : World) : (Op.equal t (.pointer (some a)) (.pointer (some a))).run P w = .ok true w :=
  run_equalIn_self 9999 ht hn h0 a w
theorem rd_ptrnil {op : BinOp} {t e : TypeId} {x y : Operand} {p : Option Addr} {r : Bool} (ht : P.underlying t = some (.pointer e)) (hop : op = .eql ∧ r = p.isNone ∨ op = .neq ∧ r = !p.isNone) : Rdo P w0 H (eqN op t x y (.pointer p) (.pointer none)) (.bool r) := by
  intro w _
  have h := run_equal_ptr (P := P) ht p w
  rcases hop with ⟨rfl, rfl⟩ | ⟨rfl, rfl⟩ <;> simp [eqN, eqGuard, binOp, h]
theorem rd_ptrself {t e : TypeId} {x y : Operand} {a : Addr} {n : Nat} (ht : P.underlying t = some (.pointer e)) (hn : ∀ w, (sizeOf e).run P w = .ok n w) (h0 : Nat.blt 0 n = true) : Rdo P w0 H (eqN .neq t x y (.pointer (some a)) (.pointer (some a))) (.bool false) := by
  intro w _
  have h0' : n ≠ 0 := by
    have : 0 < n := by simpa [Nat.blt_eq] using h0
    omega
  simp [eqN, eqGuard, binOp, run_equal_self (P := P) ht hn h0' a w]

theorem rd_unsafe {t u e : TypeId} {j g n : Nat} {c : Array Value} {T : TypeId} {fr : Nat × Nat} (ht : P.underlying t = some (.pointer e)) (hu : P.underlying u = some .unsafePointer) (hn : ∀ w, (sizeOf e).run P w = .ok n w) (h0 : Nat.blt 0 n = true) (hH : H[j]? = some (.blk g (.cells c T fr))) (hc : Nat.blt 0 c.size = true) :
    Rdo P w0 H (convert t u (.pointer (some ⟨g, 0, none⟩))) (.pointer (some ⟨g, 0, none⟩)) := by
  intro w s
  have hm := (s.mem j _ hH).2
  have h0' : n ≠ 0 := by
    have : 0 < n := by simpa [Nat.blt_eq] using h0
    omega
  have hc' : ¬ c.size = 0 := by
    have : 0 < c.size := by simpa [Nat.blt_eq] using hc
    omega
  have hs : w.shape? g = some (T, c.size) := by simp [World.shape?, hm]
  simp [convert, run_underlying ht, run_underlying hu, Conv.unsafePointer, Conv.seenAt, viewAt, shape, Sem.run, hs, cellsIn, hn, h0', hc']

theorem rd_safe {t u e : TypeId} {j g n : Nat} {c : Array Value} {T : TypeId} {fr : Nat × Nat} (ht : P.underlying t = some .unsafePointer) (hu : P.underlying u = some (.pointer e)) (hn : ∀ w, (sizeOf e).run P w = .ok n w) (h0 : Nat.blt 0 n = true) (hH : H[j]? = some (.blk g (.cells c T fr))) (hl : liesAt P P.depth T (c.size / P.cellsOf T) 0 e 1 = true) :
    Rdo P w0 H (convert t u (.pointer (some ⟨g, 0, none⟩))) (.pointer (some ⟨g, 0, none⟩)) := by
  intro w s
  have hm := (s.mem j _ hH).2
  have h0' : n ≠ 0 := by
    have : 0 < n := by simpa [Nat.blt_eq] using h0
    omega
  have hs : w.shape? g = some (T, c.size) := by simp [World.shape?, hm]
  simp [convert, run_underlying ht, run_underlying hu, Conv.unsafePointer, Conv.seenAt, viewAt, shape, Sem.run, hs, hn, h0', variablesAt, program, hl]

theorem rd_data {ts : Array TypeId} {ty : TypeId} {a : Addr} {n c : Nat} (hc : c ≠ 0) : Rdo P w0 H (Builtin.unsafeSliceData_ ts ty #[.slice (some a) n c]) (.pointer (some a)) := fun w _ => Lib.run_unsafeSliceData_row _ _ _ _ _ _ hc
theorem rd_dataNil {ts : Array TypeId} {ty : TypeId} {n c : Nat} : Rdo P w0 H (Builtin.unsafeSliceData_ ts ty #[.slice none n c]) (.pointer none) := fun w _ => rfl
end

theorem hpsub_from : ∀ (F G : Hp), HpSub F ((List.range F.length).map (· + G.length)) (G ++ F) := by
  intro F
  induction F with
  | nil => intro G; exact trivial
  | cons x F ih =>
    intro G
    rw [List.length_cons, List.range_succ_eq_map, List.map_cons, List.map_map]
    refine ⟨by simp, ?_⟩
    have := ih (G ++ [x])
    rw [List.append_assoc] at this
    simp only [List.length_append, List.length_singleton, List.cons_append, List.nil_append] at this
    have e : (fun x => x + G.length) ∘ Nat.succ = fun x => x + (G.length + 1) := by funext y; simp; omega
    rw [e]
    exact this
theorem hpsub_drop2 (x y : HI) (F : Hp) : HpSub F ((List.range F.length).map (· + 2)) (x :: y :: F) := hpsub_from F [x, y]

section
variable {w0 : World} {F : Hp} {A : Option Addr} {g cap n : Nat} {xs : List Value}
/-- What is known of a builder: its own block, and its bytes. -/
def bld (g : Nat) (p : Option Addr) (A : Option Addr) (cap n : Nat) (xs : List Value) : Hp := [.blk g (.cells #[.pointer p, .slice A n cap] 59), .row A cap 5 1 n xs]

theorem noEscape_run (g : Nat) (w : World) : (callN (.func (.func 66) #[] #[]) [.pointer (some ⟨g, 0, none⟩)]).run Tryd.prog w = .ok (.value (.pointer (some ⟨g, 0, none⟩))) w := by kernel_rfl

theorem copyCheck_nil : FnH Tryd.prog 57 #[.pointer (some ⟨g, 0, none⟩)] w0 (bld g none A cap n xs ++ F) (fun v H' => v = .tuple #[] ∧ H' = bld g (some ⟨g, 0, none⟩) A cap n xs ++ F) := by
  refine fnH_of_run Tryd.func57 rfl rfl ?_
  refine run_seq rfl ?_
  refine run_region (todo := [0, 1, 2, 3, 4]) rfl rfl ?_
  refine run_mv rfl ?_
  refine run_mv rfl ?_
  refine run_rd (v := .pointer (some ⟨g, 0, none⟩)) rfl (rd_fieldAddr (o := 0) Tryd.underlying59 rfl Tryd.sizeOf56 rfl rfl) ?_
  refine run_rd (v := .pointer none) rfl (rd_load (j := 0) Tryd.isAgg56 rfl rfl) ?_
  refine run_rd (v := .bool true) rfl (rd_ptrnil Tryd.underlying56 (.inl ⟨rfl, rfl⟩)) ?_
  refine run_endops ?_
  refine run_true rfl rfl ?_
  refine run_region (todo := [0, 1, 2, 3, 4, 5, 6, 7]) rfl rfl ?_
  refine run_mv rfl ?_
  refine run_mv rfl ?_
  refine run_rd (v := .pointer (some ⟨g, 0, none⟩)) rfl (rd_unsafe (j := 0) Tryd.underlying56 Tryd.underlying114 Tryd.sizeOf59 rfl rfl rfl) ?_
  refine run_val (dst := some 10) rfl (fun w h4 => ⟨_, w, _, noEscape_run g w, h4, ?_⟩)
  refine run_rd (v := .pointer (some ⟨g, 0, none⟩)) rfl (rd_safe (j := 0) Tryd.underlying114 Tryd.underlying56 Tryd.sizeOf59 rfl rfl (by kernel_rfl)) ?_
  refine run_mv rfl ?_
  refine run_rd (v := .pointer (some ⟨g, 0, none⟩)) rfl (rd_fieldAddr (o := 0) Tryd.underlying59 rfl Tryd.sizeOf56 rfl rfl) ?_
  refine run_store (j := 0) (c' := #[.pointer (some ⟨g, 0, none⟩), .slice A n cap]) rfl Tryd.sizeOf56 rfl rfl rfl rfl rfl rfl ?_
  refine run_endops ?_
  refine run_fall (v := .tuple #[]) (res0 rfl) ?_
  exact ⟨rfl, rfl⟩

theorem copyCheck_self : FnH Tryd.prog 57 #[.pointer (some ⟨g, 0, none⟩)] w0 (bld g (some ⟨g, 0, none⟩) A cap n xs ++ F) (fun v H' => v = .tuple #[] ∧ H' = bld g (some ⟨g, 0, none⟩) A cap n xs ++ F) := by
  refine fnH_of_run Tryd.func57 rfl rfl ?_
  refine run_seq rfl ?_
  refine run_region (todo := [0, 1, 2, 3, 4]) rfl rfl ?_
  refine run_mv rfl ?_
  refine run_mv rfl ?_
  refine run_rd (v := .pointer (some ⟨g, 0, none⟩)) rfl (rd_fieldAddr (o := 0) Tryd.underlying59 rfl Tryd.sizeOf56 rfl rfl) ?_
  refine run_rd (v := .pointer (some ⟨g, 0, none⟩)) rfl (rd_load (j := 0) Tryd.isAgg56 rfl rfl) ?_
  refine run_rd (v := .bool false) rfl (rd_ptrnil Tryd.underlying56 (.inl ⟨rfl, rfl⟩)) ?_
  refine run_endops ?_
  refine run_false rfl rfl ?_
  refine run_seq rfl ?_
  refine run_region (todo := [0, 1, 2, 3, 4, 5]) rfl rfl ?_
  refine run_mv rfl ?_
  refine run_mv rfl ?_
  refine run_rd (v := .pointer (some ⟨g, 0, none⟩)) rfl (rd_fieldAddr (o := 0) Tryd.underlying59 rfl Tryd.sizeOf56 rfl rfl) ?_
  refine run_rd (v := .pointer (some ⟨g, 0, none⟩)) rfl (rd_load (j := 0) Tryd.isAgg56 rfl rfl) ?_
  refine run_mv rfl ?_
  refine run_rd (v := .bool false) rfl (rd_ptrself Tryd.underlying56 Tryd.sizeOf59 rfl) ?_
  refine run_endops ?_
  refine run_false rfl rfl ?_
  refine run_skip rfl ?_
  refine run_fall (v := .tuple #[]) (res0 rfl) ?_
  exact ⟨rfl, rfl⟩

theorem writeString (p : Option Addr) (hp : p = none ∨ p = some ⟨g, 0, none⟩) (s : ByteArray) (hb : n + s.size ≤ 140737488355328) : FnH Tryd.prog 42 #[.pointer (some ⟨g, 0, none⟩), .string s] w0 (bld g p A cap n xs ++ F)
    (fun v H' => v = .tuple #[.int .i64 ((s.size : Nat) : Int), .nilIface] ∧ ∃ A' cap', H' = bld g (some ⟨g, 0, none⟩) A' cap' (n + s.size) (xs ++ Lib.strCells s) ++ F) := by
  have hcc : FnH Tryd.prog 57 #[.pointer (some ⟨g, 0, none⟩)] w0 (bld g p A cap n xs ++ F) (fun v H' => v = .tuple #[] ∧ H' = bld g (some ⟨g, 0, none⟩) A cap n xs ++ F) := by
    rcases hp with rfl | rfl
    · exact copyCheck_nil
    · exact copyCheck_self
  refine fnH_of_run Tryd.func42 rfl rfl ?_
  refine run_seq rfl ?_
  refine run_region (todo := [0, 1]) rfl rfl ?_
  refine run_mv rfl ?_
  refine run_mv rfl ?_
  refine run_endops ?_
  refine run_seq rfl ?_
  refine run_region (todo := [0, 1]) rfl rfl ?_
  refine run_mv rfl ?_
  refine run_callH rfl Tryd.call57 hcc (fun v H' hq => ?_)
  obtain ⟨rfl, rfl⟩ := hq
  refine run_endops ?_
  refine run_seq rfl ?_
  refine run_region (todo := [0, 1, 2, 3, 4, 5, 6, 7, 8, 9]) rfl rfl ?_
  refine run_mv rfl ?_
  refine run_mv rfl ?_
  refine run_mv rfl ?_
  refine run_rd (v := .pointer (some ⟨g, 1, none⟩)) rfl (rd_fieldAddr (o := 1) Tryd.underlying59 rfl Tryd.sizeOf57 rfl rfl) ?_
  refine run_rd (v := .slice A n cap) rfl (rd_load (j := 0) Tryd.isAgg57 rfl rfl) ?_
  refine run_mv rfl ?_
  refine run_appendStr (j := 1) (ti := Tryd.t5) rfl Tryd.underlying57 Tryd.underlying9 (by kernel_rfl) rfl rfl rfl rfl hb (fun A' cap' => ?_)
  refine run_mv rfl ?_
  refine run_rd (v := .pointer (some ⟨g, 1, none⟩)) rfl (rd_fieldAddr (o := 1) Tryd.underlying59 rfl Tryd.sizeOf57 rfl rfl) ?_
  refine run_store (j := 0) (c' := #[.pointer (some ⟨g, 0, none⟩), .slice A' (n + s.size) cap']) rfl Tryd.sizeOf57 rfl rfl rfl rfl rfl rfl ?_
  refine run_endops ?_
  refine run_seq rfl ?_
  refine run_region (todo := [0, 1, 2, 3]) rfl rfl ?_
  refine run_mv rfl ?_
  refine run_rd (v := .int .i64 ((s.size : Nat) : Int)) rfl (rd_lenStr Tryd.underlying9 rfl) ?_
  refine run_mv rfl ?_
  refine run_mv rfl ?_
  refine run_endops ?_
  refine run_ret rfl (v := .tuple #[.int .i64 ((s.size : Nat) : Int), .nilIface]) (res2 rfl rfl rfl) ?_
  exact ⟨rfl, A', cap', rfl⟩

theorem sat_freeze {w : World} {H : Hp} {j b m : Nat} {x : HI} {e : TypeId} (s : Sat w0 H w) (hj : H[j]? = some x) (hx : x.foot = some b) : Sat w0 (H.set j (.row none 0 e 1 0 [])) (w.freeze ⟨b, 0, none⟩ m) := by
  refine s.write hj hx ?_ ?_ ?_ ?_ ?_ (World.ownsRow_nil _ _ _ _) (fun k hk => by simp [HI.foot] at hk)
  · unfold World.freeze; split <;> rfl
  · unfold World.freeze; split <;> rfl
  · unfold World.freeze; split <;> rfl
  · unfold World.freeze; split <;> simp
  · intro k hk hne
    unfold World.freeze
    split
    · rfl
    · simp only [Array.getElem?_modify]
      rw [if_neg (by simpa using fun h => hne h.symm)]

theorem row_some {w : World} {H : Hp} {j : Nat} {e : TypeId} {size : Nat} (s : Sat w0 H w) (hH : H[j]? = some (.row A cap e size n xs)) (hn : n ≠ 0) : ∃ b, A = some ⟨b, 0, none⟩ ∧ n ≤ cap ∧ cap ≤ maxLen := by
  have h := s.mem j _ hH
  rcases h.2 with ⟨_, h0⟩ | ⟨b, cap', cur, hv, _, _, hc, hm, _⟩
  · exact absurd h0 hn
  · obtain ⟨rfl, _, rfl⟩ := Value.slice.inj hv
    exact ⟨b, rfl, hc, hm⟩

theorem run_know {P : Program} {fn : Func} {k : List KI} {ρ : Env} {H : Hp} {R : Value → Hp → Prop} {Q : Prop} (hq : ∀ w, Sat w0 H w → Q) (h : Q → Run P fn w0 k ρ H R) : Run P fn w0 k ρ H R :=
  fun a w h1 h2 h3 h4 => h (hq w h4) a w h1 h2 h3 h4

theorem bldString (p : Option Addr) (l : List UInt8) (hl : l ≠ []) : FnH Tryd.prog 26 #[.pointer (some ⟨g, 0, none⟩)] w0 (bld g p A cap l.length (Lib.strCells (bs l)) ++ F) (fun v H' => v = .string (bs l) ∧ H' = F) := by
  have hn : l.length ≠ 0 := fun h => hl (List.eq_nil_of_length_eq_zero h)
  refine fnH_of_run Tryd.func26 rfl rfl ?_
  refine run_know (fun w h4 => row_some (j := 1) h4 rfl hn) (fun hq => ?_)
  obtain ⟨b, rfl, hnc, hcm⟩ := hq
  refine run_seq rfl ?_
  refine run_region (todo := [0]) rfl rfl ?_
  refine run_mv rfl ?_
  refine run_endops ?_
  refine run_seq rfl ?_
  refine run_par' rfl (by kernel_rfl) [.val [] (fun _ => .pointer (some ⟨g, 0, none⟩)), .val [] (fun _ => .pointer (some ⟨g, 0, none⟩)), .val [] (fun _ => .pointer (some ⟨g, 1, none⟩)), .val [] (fun _ => .slice (some ⟨b, 0, none⟩) l.length cap), .val [] (fun _ => .pointer (some ⟨b, 0, none⟩)), .val [] (fun _ => .pointer (some ⟨g, 0, none⟩)), .val [] (fun _ => .pointer (some ⟨g, 0, none⟩)), .val [] (fun _ => .pointer (some ⟨g, 1, none⟩)), .val [] (fun _ => .slice (some ⟨b, 0, none⟩) l.length cap), .val [] (fun _ => .int .i64 ((l.length : Nat) : Int))]
    [⟨[], [], []⟩, ⟨[0], [], []⟩, ⟨[1], [], []⟩, ⟨[2], [], []⟩, ⟨[3], [], []⟩, ⟨[], [], []⟩, ⟨[5], [], []⟩, ⟨[6], [], []⟩, ⟨[7], [], []⟩, ⟨[8], [], []⟩] [(0, .pointer (some ⟨g, 0, none⟩))] (by kernel_rfl) (by kernel_rfl) ⟨rfl, trivial⟩ ⟨trivial, trivial, trivial, trivial, trivial, trivial, trivial, trivial, trivial, trivial, trivial⟩ ?_ (fun V hs hq => ?_)
  · refine ⟨fun V hs hB => ob_mv rfl rfl, ?_⟩
    refine ⟨fun V hs hB => ob_mv rfl rfl, ?_⟩
    refine ⟨fun V hs hB => ob_rd rfl rfl (rd_fieldAddr (o := 1) Tryd.underlying59 rfl Tryd.sizeOf57 rfl rfl), ?_⟩
    refine ⟨fun V hs hB => ob_rd rfl rfl (rd_load (j := 0) Tryd.isAgg57 rfl rfl), ?_⟩
    refine ⟨fun V hs hB => ob_rd rfl rfl (rd_data (by omega)), ?_⟩
    refine ⟨fun V hs hB => ob_mv rfl rfl, ?_⟩
    refine ⟨fun V hs hB => ob_mv rfl rfl, ?_⟩
    refine ⟨fun V hs hB => ob_rd rfl rfl (rd_fieldAddr (o := 1) Tryd.underlying59 rfl Tryd.sizeOf57 rfl rfl), ?_⟩
    refine ⟨fun V hs hB => ob_rd rfl rfl (rd_load (j := 0) Tryd.isAgg57 rfl rfl), ?_⟩
    refine ⟨fun V hs hB => ob_rd rfl rfl (rd_len Tryd.underlying57), ?_⟩
    trivial
  rw [show relsOf _ = [] from by kernel_rfl]
  refine any_one (i := 10) (by kernel_rfl) ?_
  refine ro_val (dst := some 13) rfl (fun w h4 => ⟨.string (bs l), w.freeze ⟨b, 0, none⟩ l.length, _, vN_run ?_, sat_freeze (j := 1) (e := 5) h4 rfl rfl, ?_⟩)
  · obtain ⟨hw1, hw2⟩ := h4.mem 1 _ rfl
    rcases hw2 with ⟨_, h0⟩ | ⟨b', cap', cur, hv, _, hg, hc, hm, hcs, ht⟩
    · exact absurd h0 hn
    · obtain ⟨hb, _, rfl⟩ := Value.slice.inj hv
      obtain rfl : b = b' := by simpa using hb
      refine Lib.run_unsafeString_row w 94 3 9 5 Tryd.underlying94 (by kernel_rfl) b cur.size (by simp [World.shape?, hg]) l hl (by rw [hcs]; omega) (by unfold maxLen at hcm; omega) ?_
      intro j x hx
      have hrow := World.ownsRow.cells (w := w) (h4.mem 1 _ rfl) (g := b) rfl j (.int .u8 x.toNat) (by simp [Lib.strCells, bs, hx])
      exact hrow
  refine any_one (i := 11) (by kernel_rfl) ?_
  refine ro_mv rfl ?_
  refine any_end (by kernel_rfl) ?_
  refine run_less (ρ' := [(2, .string (bs l))]) (H' := F) ((List.range F.length).map (· + 2)) ?_ ⟨rfl, trivial⟩ ?_ ?_
  · refine run_ret rfl (v := .string (bs l)) (res1 rfl rfl) ?_
    exact ⟨rfl, rfl⟩
  · exact hpsub_drop2 _ _ F
  · exact (List.pairwise_map.2 (List.nodup_range.imp fun hne e => hne (by omega)))
end
end Go.Proofs.YthapghhmeicbnaaDoor
