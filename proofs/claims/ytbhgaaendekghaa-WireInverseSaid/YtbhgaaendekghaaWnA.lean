/-
  ref01.Same, SameMsg, SameEntry; wire.Read; the example that every statement of layer 1 checks first: it holds.
  No conditions but that the slices can be read.
-/
import Derived.Test.YtbhgaaendekghaaWnN
import Derived.BigQuiet
namespace Go.Proofs.Ytbhgaaendekghaa
open Go.RowKit

theorem same_any (A B : Option Addr) (ca cb : Nat) (a b : List UInt8) (w : World) (ha : Bs w w.heap.size A a) (hb : Bs w w.heap.size B b) :
    Calls Try.prog 44 #[.slice A a.length ca, .slice B b.length cb] w fun e w' => e = .returned (.bool (a == b)) ∧ w' = w := by
  have h1 := run_str (P := Try.prog) w 22 9 5 Try.underlying22 Try.underlying5 Try.underlying9 (c := ca) ha rfl
  have h2 := run_str (P := Try.prog) w 22 9 5 Try.underlying22 Try.underlying5 Try.underlying9 (c := cb) hb rfl
  go_enter Try.func44, Try.ntmps44
  go_wp2_with fail
  go_ret
  exact ⟨rfl, rfl⟩
theorem same_zero (w : World) : Calls Try.prog 44 #[.slice none 0 0, .slice none 0 0] w fun e w' => e = .returned (.bool true) ∧ w' = w :=
  same_any none none 0 0 [] [] w (Bs.nil _ _ _) (Bs.nil _ _ _)
theorem eq4 (w : World) : (Op.equalIn 10000 24 (.agg #[.int .i64 0, .int .i64 0, .int .i64 0, .int .i64 0]) (.agg #[.int .i64 0, .int .i64 0, .int .i64 0, .int .i64 0])).run Try.prog w = .ok true w := by
  have u3 := Try.underlying3
  have a3 := Try.isAgg3
  have z3 := Try.sizeOf3
  rw [show (10000 : Nat) = 9999 + 1 from rfl, Op.equalIn]
  simp only [Sem.run_bind, run_underlying Try.underlying24, Result.andThen_ok]
  simp only [Std.Legacy.Range.forIn_eq_forIn_range', Std.Legacy.Range.size, Nat.sub_zero, Nat.add_sub_cancel, Nat.div_one, List.range'_succ, List.range'_zero, List.forIn_cons, List.forIn_nil]
  go_simp
theorem eq3 (w : World) : (Op.equalIn 10000 33 (.agg #[.int .i64 0, .int .i64 0, .int .i64 0]) (.agg #[.int .i64 0, .int .i64 0, .int .i64 0])).run Try.prog w = .ok true w := by
  have u3 := Try.underlying3
  have a3 := Try.isAgg3
  have z3 := Try.sizeOf3
  rw [show (10000 : Nat) = 9999 + 1 from rfl, Op.equalIn]
  simp only [Sem.run_bind, run_underlying Try.underlying33, Result.andThen_ok]
  simp only [Std.Legacy.Range.forIn_eq_forIn_range', Std.Legacy.Range.size, Nat.sub_zero, Nat.add_sub_cancel, Nat.div_one, List.range'_succ, List.range'_zero, List.forIn_cons, List.forIn_nil]
  go_simp
set_option maxRecDepth 100000 in
theorem sameMsg_zero (w : World) : Calls Try.prog 17 #[.agg #[.int .i64 0, .int .i64 0, .int .i64 0, .int .i64 0, .int .i64 0, .int .i64 0, .int .i64 0, .int .i64 0, .slice none 0 0], .agg #[.int .i64 0, .int .i64 0, .int .i64 0, .int .i64 0, .int .i64 0, .int .i64 0, .int .i64 0, .int .i64 0, .slice none 0 0]] w fun e w' => e = .returned (.bool true) ∧ Only Nil w w' := by
  have h4 := eq4
  go_enter Try.func17, Try.ntmps17
  go_wp2_with fail
  refine (same_zero _).mono ?_
  rintro e w1 ⟨rfl, rfl⟩
  go_wp2_with fail
  go_ret
  exact ⟨rfl, by (repeat' (first | with_reducible exact Only.refl _ _ | with_reducible refine Only.setCell ?_ (Or.inl ?_) _ | with_reducible refine Only.drewN ?_ _ | with_reducible refine Only.drew ?_ | with_reducible refine Only.alloc ?_ _ | (fail)))⟩
set_option maxRecDepth 100000 in
theorem sameEntry_zero (w : World) : Calls Try.prog 19 #[.agg #[.int .i64 0, .int .i64 0, .int .i64 0, .int .i64 0, .int .i64 0, .int .i64 0, .int .i64 0, .slice none 0 0], .agg #[.int .i64 0, .int .i64 0, .int .i64 0, .int .i64 0, .int .i64 0, .int .i64 0, .int .i64 0, .slice none 0 0]] w fun e w' => e = .returned (.bool true) ∧ Only Nil w w' := by
  have h3 := eq3
  go_enter Try.func19, Try.ntmps19
  go_wp2_with fail
  refine (same_zero _).mono ?_
  rintro e w1 ⟨rfl, rfl⟩
  go_wp2_with fail
  go_ret
  exact ⟨rfl, by (repeat' (first | with_reducible exact Only.refl _ _ | with_reducible refine Only.setCell ?_ (Or.inl ?_) _ | with_reducible refine Only.drewN ?_ _ | with_reducible refine Only.drew ?_ | with_reducible refine Only.alloc ?_ _ | (fail)))⟩

/-- A reader at block p over these bytes. -/
structure RD (w : World) (p : Nat) (A : Option Addr) (c : Nat) (l : List UInt8) (pos : Nat) (failed : Bool) : Prop where
  box : Blk w p 96 #[.slice A l.length c, .int .i64 pos, .bool failed]
  bytes : Bs w w.heap.size A l

theorem read_any (A : Option Addr) (c : Nat) (l : List UInt8) (w : World) (h : Bs w w.heap.size A l) (hl : l.length ≤ 1099511627776) :
    Calls Try.prog 23 #[.slice A l.length c] w fun e w' => ∃ p A' c', e = .returned (.pointer (some ⟨p, 0, none⟩)) ∧ w.heap.size ≤ p ∧ RD w' p A' c' l 0 false ∧ l.length ≤ c' ∧ Only Nil w w' := by
  obtain ⟨i0, hi0, hz0, hz1, hz2⟩ := info_parts byte_info
  have H := Lib.hid h
  have HL := Lib.hid hl
  clear h hl
  go_enter Try.func23, Try.ntmps23
  go_wp2_with (at_builtin; go_must (refine wpList_append_rd _ rfl (.tmp 3) (.tmp 4) _ rfl w.heap.size 5 i0 (.int .u8 0) 1 1 Try.underlying22 hi0 hz0 hz1 hz2 rfl (by omega) (.slice (some ⟨w.heap.size, 0, none⟩) 0 0) 0 [] rfl ?qown w.heap.size A l.length c (bcells l) rfl ?qrd (bcells_one l) l.length (by omega) _ rfl ?q63 ?qby ?qbase ?_))
  case qown => exact World.ownsRow_lit w #[] 0 (Nat.le_refl _) (by unfold maxLen; omega) rfl
  case qrd => exact Rd.onlyNil H.out ((Only.refl _ _).alloc _) (Nat.le_refl _)
  case q63 => have := HL.out; unfold maxLen; omega
  case qby => have := HL.out; omega
  case qbase => simp
  intro A4 c4 w4 hc4 hown4 hgr4 hat4
  have hO4 : Only Nil w w4 := ((Only.refl _ _).alloc _).grown hgr4 (fun q hq => .inr (Nat.le_of_eq (by simpa [Value.ownBlock] using hq)))
  have hb4 : Bs w4 w4.heap.size A4 l := (Bs.of_own (l := l) (by simpa using hown4)).1
  have HO4 := Lib.hid hO4
  have HB4 := Lib.hid hb4
  have HC4 := Lib.hid hc4
  clear hO4 hb4 hown4 hgr4 hat4 hc4
  go_wp2_with fail
  go_ret
  exact ⟨w4.heap.size, A4, c4, rfl, HO4.out.size, ⟨Blk.new _ _ _, (HB4.out.onlyNil ((Only.refl _ _).alloc _) (Nat.le_refl _)).up ((Only.refl Nil _).alloc _).size⟩, HC4.out, HO4.out.alloc _⟩

end Go.Proofs.Ytbhgaaendekghaa
