/-
  The law RingNil: on a nil pointer.
  No conditions.
-/
import Derived.Test.YtljfblnpgeconaaRiA
import Derived.Test.YtljfblnpgeconaaRiB
import Derived.Lib.BytesEntry
import Derived.Laws.Externs
namespace Go.Proofs.Ytljfblnpgeconaa
open Go.ChangeShapes Go.WideShapes Go.ChangeAt Go.RowKit Go.Deep

set_option maxRecDepth 100000 in
/-- A slice of bytes as an argument. -/
theorem open_barg {H : Type} {enc : TypeId × Value → H} {W : World} {v : Value} {d : DataW H} {p : List MemPlace} {base : Nat}
    (hv : Value.okWide Try.prog W .any base 29 v) (h : DataW.Trod enc Try.prog W 0 (fun _ => true) true 29 v d p) :
    ∃ (A : Option Addr) (l : List UInt8) (c : Nat), v = .slice A l.length c ∧ l.length ≤ c ∧ c ≤ maxLen ∧ Bs W W.heap.size A l := by
  obtain ⟨a0, len, cap, rfl⟩ := okWide_slice Try.underlying29 hv
  obtain ⟨fuel, hf⟩ := h
  have hf' : DataW.trod enc Try.prog W 0 (fun _ => true) true fuel 29 [.slice a0 len cap] = some (d, p) := hf
  obtain ⟨A, l, c, h1, h2, h3, h4, _⟩ := open_bytes Try.underlying29 Try.underlying5 (by kernel_rfl) hf'
  exact ⟨A, l, c, h1, h2, h3, h4⟩

set_option maxRecDepth 100000 in
/-- A message as an argument: its nine cells. -/
theorem open_marg {H : Type} {enc : TypeId × Value → H} {W : World} {v : Value} {d : DataW H} {p : List MemPlace} {base : Nat}
    (hv : Value.okWide Try.prog W .any base 48 v) (h : DataW.Trod enc Try.prog W 0 (fun _ => true) true 48 v d p) :
    ∃ (A : Option Addr) (c : Nat) (m : M), v = .agg (mcells A c m).toArray := by
  obtain ⟨cs, rfl, hcs⟩ := okWide_struct Try.underlying48 hv
  obtain ⟨fuel, hf⟩ := h
  obtain ⟨ys, n', hn', hy, hlen, hyl, hg⟩ := DataW.trod_struct Try.underlying48 hf
  have hl : cs.toList.length = 9 := by
    rw [Array.length_toList, hcs]
    kernel_rfl
  have hyl : ys.length = 6 := hyl
  have e1 : Try.prog.cellsOf 3 = 1 := by kernel_rfl
  have e4 : Try.prog.cellsOf 46 = 4 := by kernel_rfl
  have e8 : Try.prog.cellsOf 29 = 1 := by kernel_rfl
  have one : ∀ k, k < 9 → ∃ v, cs.toList[k]? = some v ∧ List.take 1 (List.drop k cs.toList) = [v] := fun k hk => by
    refine ⟨cs.toList[k]'(by omega), List.getElem?_eq_getElem _, ?_⟩
    rw [List.drop_eq_getElem_cons (by omega)]
    rfl
  have ysome : ∀ k, k < 6 → ∃ y, ys[k]? = some y := fun k hk => ⟨ys[k]'(by omega), List.getElem?_eq_getElem _⟩
  have t0 : DataW.trod enc Try.prog W 0 (fun _ => true) true n' 3 (List.take (Try.prog.cellsOf 3) (List.drop 0 cs.toList)) = ys[0]? := hg 0 _ rfl
  have t1 : DataW.trod enc Try.prog W 0 (fun _ => true) true n' 3 (List.take (Try.prog.cellsOf 3) (List.drop 1 cs.toList)) = ys[1]? := hg 1 _ rfl
  have t2 : DataW.trod enc Try.prog W 0 (fun _ => true) true n' 3 (List.take (Try.prog.cellsOf 3) (List.drop 2 cs.toList)) = ys[2]? := hg 2 _ rfl
  have t3 : DataW.trod enc Try.prog W 0 (fun _ => true) true n' 3 (List.take (Try.prog.cellsOf 3) (List.drop 3 cs.toList)) = ys[3]? := hg 3 _ rfl
  have t4 : DataW.trod enc Try.prog W 0 (fun _ => true) true n' 46 (List.take (Try.prog.cellsOf 46) (List.drop 4 cs.toList)) = ys[4]? := hg 4 _ rfl
  have t8 : DataW.trod enc Try.prog W 0 (fun _ => true) true n' 29 (List.take (Try.prog.cellsOf 29) (List.drop 8 cs.toList)) = ys[5]? := hg 5 _ rfl
  obtain ⟨v0, c0, d0⟩ := one 0 (by omega)
  obtain ⟨v1, c1, d1⟩ := one 1 (by omega)
  obtain ⟨v2, c2, d2⟩ := one 2 (by omega)
  obtain ⟨v3, c3, d3⟩ := one 3 (by omega)
  obtain ⟨v8, c8, d8⟩ := one 8 (by omega)
  obtain ⟨y0, h0⟩ := ysome 0 (by omega)
  obtain ⟨y1, h1⟩ := ysome 1 (by omega)
  obtain ⟨y2, h2⟩ := ysome 2 (by omega)
  obtain ⟨y3, h3⟩ := ysome 3 (by omega)
  obtain ⟨y4, h4⟩ := ysome 4 (by omega)
  obtain ⟨y5, h5⟩ := ysome 5 (by omega)
  rw [e1, d0, h0] at t0
  rw [e1, d1, h1] at t1
  rw [e1, d2, h2] at t2
  rw [e1, d3, h3] at t3
  rw [h4] at t4
  rw [e8, d8, h5] at t8
  obtain ⟨x0, q0, _, _⟩ := DataW.trod_int Try.underlying3 t0
  obtain ⟨x1, q1, _, _⟩ := DataW.trod_int Try.underlying3 t1
  obtain ⟨x2, q2, _, _⟩ := DataW.trod_int Try.underlying3 t2
  obtain ⟨x3, q3, _, _⟩ := DataW.trod_int Try.underlying3 t3
  obtain ⟨zs, hzl, hzs, _⟩ := ints_of_array Try.underlying46 Try.underlying3 e1 e4 t4
  obtain ⟨A, b, c, q8, _, _, _, _⟩ := open_bytes Try.underlying29 Try.underlying5 (by kernel_rfl) t8
  simp at q0 q1 q2 q3
  rw [e4] at hzs
  match zs, hzl with
  | [z0, z1, z2, z3], _ =>
    have ha : ∀ i, i < 4 → cs.toList[4 + i]? = ([z0, z1, z2, z3].map (Value.int .i64))[i]? := fun i hi => by
      rw [← hzs, List.getElem?_take_of_lt hi, List.getElem?_drop]
    refine ⟨A, c, ⟨x0, x1, x2, x3, z0, z1, z2, z3, b⟩, ?_⟩
    have hcs' : cs.toList = mcells A c ⟨x0, x1, x2, x3, z0, z1, z2, z3, b⟩ := by
      apply List.ext_getElem?
      intro i
      match i with
      | 0 => rw [c0, q0]; rfl
      | 1 => rw [c1, q1]; rfl
      | 2 => rw [c2, q2]; rfl
      | 3 => rw [c3, q3]; rfl
      | 4 => exact ha 0 (by omega)
      | 5 => exact ha 1 (by omega)
      | 6 => exact ha 2 (by omega)
      | 7 => exact ha 3 (by omega)
      | 8 => rw [c8, q8]; rfl
      | n + 9 => rw [List.getElem?_eq_none (by rw [hl]; omega), List.getElem?_eq_none (by show 9 ≤ n + 9; omega)]
    rw [← hcs']

namespace ringNil
theorem put_nil (A : Option Addr) (c n : Nat) (w : World) : Calls Try.prog 13 #[.pointer none, .slice A n c] w fun e w' => e = .returned (.int .i64 0) ∧ w' = w := by
  by_cases hn : (n : Int) ≤ 0
  · go_enter Try.func13, Try.ntmps13
    obtain rfl : n = 0 := by omega
    clear hn
    go_wp2_with fail
    refine (free_nil _).mono ?_
    rintro e w1 ⟨rfl, rfl⟩
    go_wp2_with fail
    refine wp_loop_rounds 1 ?_
    rw [rounds_succ]
    go_wp2_with fail
    go_ret
    exact ⟨rfl, rfl⟩
  · have hn' : (0 : Int) < n := by omega
    go_enter Try.func13, Try.ntmps13
    go_wp2_with fail
    refine (free_nil _).mono ?_
    rintro e w1 ⟨rfl, rfl⟩
    go_wp2_with fail
    refine wp_loop_rounds 1 ?_
    rw [rounds_succ]
    go_wp2_with fail
    go_ret
    exact ⟨rfl, rfl⟩

theorem encode_nil (w : World) : Calls Try.prog 19 #[.pointer none] w fun e w' => e = .returned (.slice none 0 0) ∧ w' = w := by
  go_enter Try.func19, Try.ntmps19
  go_wp2_with fail
  go_ret
  exact ⟨rfl, rfl⟩
theorem qencode_nil (w : World) : Calls Try.prog 30 #[.pointer none] w fun e w' => e = .returned (.slice none 0 0) ∧ w' = w := by
  go_enter Try.func30, Try.ntmps30
  go_wp2_with fail
  go_ret
  exact ⟨rfl, rfl⟩
theorem qlen_nil (w : World) : Calls Try.prog 24 #[.pointer none] w fun e w' => e = .returned (.int .i64 0) ∧ w' = w := by
  go_enter Try.func24, Try.ntmps24
  go_wp2_with fail
  go_ret
  exact ⟨rfl, rfl⟩
theorem qdrop_nil (n : Int) (w : World) : Calls Try.prog 23 #[.pointer none, .int .i64 n] w fun e w' => e = .returned (.int .i64 0) ∧ Only Nil w w' := by
  go_enter Try.func23, Try.ntmps23
  go_wp2_with fail
  refine (qlen_nil _).mono ?_
  rintro e w1 ⟨rfl, rfl⟩
  go_wp2_with fail
  refine (qlen_nil _).mono ?_
  rintro e w1 ⟨rfl, rfl⟩
  go_wp2_with fail
  go_ret
  exact ⟨rfl, by (repeat' (first | with_reducible exact Only.refl _ _ | with_reducible refine Only.setCell ?_ (Or.inl ?_) _ | with_reducible refine Only.drewN ?_ _ | with_reducible refine Only.drew ?_ | with_reducible refine Only.alloc ?_ _ | (fail)))⟩
theorem qfirst_nil (w : World) : Calls Try.prog 27 #[.pointer none] w fun e w' => e = .returned (.tuple #[.agg #[.int .i64 0, .int .i64 0, .int .i64 0, .int .i64 0, .int .i64 0, .int .i64 0, .int .i64 0, .int .i64 0, .slice none 0 0], .bool false]) ∧ Only Nil w w' := by
  go_enter Try.func27, Try.ntmps27
  go_wp2_with fail
  refine (qlen_nil _).mono ?_
  rintro e w1 ⟨rfl, rfl⟩
  go_wp2_with fail
  refine bodyPost_ret (v := .tuple #[.agg #[.int .i64 0, .int .i64 0, .int .i64 0, .int .i64 0, .int .i64 0, .int .i64 0, .int .i64 0, .int .i64 0, .slice none 0 0], .bool false]) (by simp [results, Try.results27, go_sem]) rfl ?_
  exact ⟨rfl, by (repeat' (first | with_reducible exact Only.refl _ _ | with_reducible refine Only.setCell ?_ (Or.inl ?_) _ | with_reducible refine Only.drewN ?_ _ | with_reducible refine Only.drew ?_ | with_reducible refine Only.alloc ?_ _ | (fail)))⟩
theorem qtake_nil (w : World) : Calls Try.prog 25 #[.pointer none] w fun e w' => e = .returned (.tuple #[.agg #[.int .i64 0, .int .i64 0, .int .i64 0, .int .i64 0, .int .i64 0, .int .i64 0, .int .i64 0, .int .i64 0, .slice none 0 0], .bool false]) ∧ Only Nil w w' := by
  go_enter Try.func25, Try.ntmps25
  go_wp2_with fail
  refine (qfirst_nil _).mono ?_
  rintro e w1 ⟨rfl, hO1⟩
  have hb1 := (Blk.new w 48 #[Value.int .i64 0, .int .i64 0, .int .i64 0, .int .i64 0, .int .i64 0, .int .i64 0, .int .i64 0, .int .i64 0, .slice none 0 0]).onlyNil hO1
  have k1 : ∀ o i, (w1.alloc o).cell? ⟨w.heap.size, i, none⟩ = #[Value.int .i64 0, .int .i64 0, .int .i64 0, .int .i64 0, .int .i64 0, .int .i64 0, .int .i64 0, .int .i64 0, .slice none 0 0][i]? := fun o i => (hb1.alloc o).cell i
  have f1 : ∀ o i, (w1.alloc o).frozen? ⟨w.heap.size, i, none⟩ = false := fun o i => (hb1.alloc o).frozen i
  have hne : w.heap.size ≠ w1.heap.size := by have := hb1.lt; omega
  have hne' : w1.heap.size ≠ w.heap.size := fun h => hne h.symm
  have HO1 := Lib.hid hO1
  clear hb1 hO1
  go_wp2_with fail
  refine bodyPost_ret (v := .tuple #[.agg #[.int .i64 0, .int .i64 0, .int .i64 0, .int .i64 0, .int .i64 0, .int .i64 0, .int .i64 0, .int .i64 0, .slice none 0 0], .bool false]) (by simp [results, Try.results25, go_sem, k1]) rfl ?_
  refine ⟨rfl, (((Only.refl Nil w).alloc _).thenNil HO1.out).trans (S' := fun x => w.heap.size ≤ x) ?_ (fun x hx => .inr hx)⟩
  (repeat' (first | with_reducible exact Only.refl _ _ | with_reducible refine Only.setCell ?_ (Or.inl ?_) _ | with_reducible refine Only.drewN ?_ _ | with_reducible refine Only.drew ?_ | with_reducible refine Only.alloc ?_ _ | (exact Nat.le_refl _)))

theorem index_nil (z : Int) (w : World) : Calls Try.prog 28 #[.pointer none, .int .u8 z] w fun e w' => e = .returned (.int .i64 (-1)) ∧ w' = w := by
  have hd : (callFunc 69 #[.slice none 0 0, .int .u8 z]).run Try.prog w = .ok (.value (.int .i64 (-1))) w := by
    rw [run_callFunc_extern Try.func69 (by kernel_rfl) (by kernel_rfl) (by kernel_rfl) (e := Extern.BytealgIndexByte.indexByte) (by kernel_rfl)]
    rw [Lib.run_indexByteNil w 0 0 z]
    rfl
  go_enter Try.func28, Try.ntmps28
  go_wp2_with fail
  refine (len_nil _).mono ?_
  rintro e w1 ⟨rfl, rfl⟩
  go_wp2_with fail
  refine (peek_nil _ _).mono ?_
  rintro e w2 ⟨rfl, rfl⟩
  go_wp2_with fail
  refine (show Calls Try.prog 53 #[.slice none 0 0, .int .u8 z] w2 (fun e w' => e = .returned (.int .i64 (-1)) ∧ w' = w2) by
    go_enter Try.func53, Try.ntmps53
    go_wp2_with fail
    go_ret
    exact ⟨rfl, rfl⟩).mono ?_
  rintro e w3 ⟨rfl, rfl⟩
  go_wp2_with fail
  go_ret
  exact ⟨rfl, rfl⟩

theorem first_any (A : Option Addr) (c : Nat) (b : List UInt8) (w : World) (hb : Bs w w.heap.size A b) : Calls Try.prog 29 #[.slice A b.length c] w fun e w' => ∃ z, e = .returned (.int .u8 z) ∧ w' = w := by
  rcases b with _ | ⟨x, b⟩
  · go_enter Try.func29, Try.ntmps29
    go_wp2_with fail
    go_ret
    exact ⟨_, rfl, rfl⟩
  · obtain ⟨g, off, rfl, _, hc⟩ := hb.at_ (i := 0) (b := x) rfl
    have hc' : w.cell? ⟨g, off, none⟩ = some (.int .u8 (x.toNat : Int)) := hc
    clear hc
    have hl : (((x :: b).length : Int) == 0) = false := by
      show decide _ = false
      rw [decide_eq_false_iff_not, List.length_cons]
      omega
    have hp : (0 : Int) < ((x :: b).length : Int) := by rw [List.length_cons]; omega
    obtain ⟨n, hn⟩ : ∃ n, (x :: b).length = n := ⟨_, rfl⟩
    rw [hn] at hl hp ⊢
    go_enter Try.func29, Try.ntmps29
    go_wp2_with fail
    go_ret
    exact ⟨_, rfl, rfl⟩

set_option maxRecDepth 100000 in
set_option maxHeartbeats 2000000 in
theorem walk (A : Option Addr) (c : Nat) (b : List UInt8) (Am : Option Addr) (cm : Nat) (m : M) (w : World) (hb : Bs w w.heap.size A b) :
    Calls Try.prog 6 #[.slice A b.length c, .agg (mcells Am cm m).toArray] w (LawPost w) := by
  obtain ⟨w2, hw2⟩ : ∃ w2, w2 = w.alloc (.cells (mcells Am cm m).toArray 48) := ⟨_, rfl⟩
  have hX : Blk w2 w.heap.size 48 (mcells Am cm m).toArray := by rw [hw2]; exact Blk.new _ _ _
  have hXO : Only Nil w w2 := by rw [hw2]; exact (Only.refl _ _).alloc _
  have HX := Lib.hid hX
  have HXO := Lib.hid hXO
  have HB := Lib.hid hb
  have hP := qput_nil m Am cm
  obtain ⟨N, hN⟩ : ∃ N, b.length = N := ⟨_, rfl⟩
  have hF := fun w' h => first_any A c b w' h
  rw [hN] at hF ⊢
  clear hX hXO hb
  unfold mcells at hw2 hP ⊢
  have HP := Lib.hid hP
  have HF := Lib.hid hF
  clear hP hF hN
  go_enter Try.func6, Try.ntmps6
  go_wp2_with fail
  refine (awake_any _).mono ?_
  rintro x w3 ⟨rfl, hO3⟩
  have HO3 : Hid (Only Nil w2 w3) := Lib.hid (by rw [hw2]; exact hO3)
  clear hO3 hw2
  go_wp2_with fail
  refine (qfirst_nil _).mono ?_
  rintro x w4 ⟨rfl, hO4⟩
  have HO4 := Lib.hid (HO3.out.thenNil hO4)
  clear hO4
  go_wp2_with fail
  refine (qtake_nil _).mono ?_
  rintro x w5 ⟨rfl, hO5⟩
  have HO5 := Lib.hid ((HO4.out.trans (S' := Nil) (by (repeat' (first | with_reducible exact Only.refl _ _ | with_reducible refine Only.setCell ?_ (Or.inl ?_) _ | with_reducible refine Only.drewN ?_ _ | with_reducible refine Only.drew ?_ | with_reducible refine Only.alloc ?_ _ | (fail)))) (fun x hx => .inl hx)).thenNil hO5)
  have km : ∀ o i, (w5.alloc o).cell? ⟨w.heap.size, i, none⟩ = #[Value.int .i64 m.src, .int .i64 m.dst, .int .i64 m.kind, .int .i64 m.seq, .int .i64 m.a0, .int .i64 m.a1, .int .i64 m.a2, .int .i64 m.a3, .slice Am m.data.length cm][i]? := fun o i => ((HX.out.onlyNil HO5.out).alloc o).cell i
  have HO6 : Hid (∀ o, Only Nil w2 (w5.alloc o)) := Lib.hid (fun o => HO5.out.alloc o)
  clear hO5
  go_wp2_with fail
  refine (put_nil _ _ _ _).mono ?_
  rintro x w6 ⟨rfl, rfl⟩
  go_wp2_with fail
  refine (take_nil _ _).mono ?_
  rintro x w6 ⟨rfl, rfl⟩
  go_wp2_with fail
  refine (peek_nil _ _).mono ?_
  rintro x w6 ⟨rfl, rfl⟩
  go_wp2_with fail
  refine (HF.out _ ((HB.out.onlyNil (HXO.out.thenNil (HO6.out _)) (Nat.le_refl _)).up (HXO.out.thenNil (HO6.out _)).size)).mono ?_
  rintro x w6 ⟨z, rfl, rfl⟩
  go_wp2_with fail
  refine (index_nil _ _).mono ?_
  rintro x w6 ⟨rfl, rfl⟩
  go_wp2_with fail
  refine (len_nil _).mono ?_
  rintro x w6 ⟨rfl, rfl⟩
  go_wp2_with fail
  refine (free_nil _).mono ?_
  rintro x w6 ⟨rfl, rfl⟩
  go_wp2_with fail
  refine (encode_nil _).mono ?_
  rintro x w6 ⟨rfl, rfl⟩
  go_wp2_with fail
  refine (HP.out _).mono ?_
  rintro x w7 ⟨rfl, hO7⟩
  have km7 : ∀ i, w7.cell? ⟨w.heap.size, i, none⟩ = #[Value.int .i64 m.src, .int .i64 m.dst, .int .i64 m.kind, .int .i64 m.seq, .int .i64 m.a0, .int .i64 m.a1, .int .i64 m.a2, .int .i64 m.a3, .slice Am m.data.length cm][i]? := fun i => (((HX.out.onlyNil HO5.out).alloc _).onlyNil hO7).cell i
  have HO7 := Lib.hid ((HO6.out _).thenNil hO7)
  clear hO7
  go_wp2_with fail
  refine (qdrop_nil _ _).mono ?_
  rintro x w8 ⟨rfl, hO8⟩
  have HO8 := Lib.hid (HO7.out.thenNil hO8)
  clear hO8
  go_wp2_with fail
  refine (qlen_nil _).mono ?_
  rintro x w9 ⟨rfl, rfl⟩
  go_wp2_with fail
  refine (qencode_nil _).mono ?_
  rintro x w9 ⟨rfl, rfl⟩
  go_wp2_with fail
  go_ret
  exact ⟨rfl, HXO.out.thenNil HO8.out⟩

set_option maxRecDepth 100000 in
theorem from_args {H : Type} {enc : TypeId × Value → H} (W : World) (base : Nat) (args : Array Value) (ds : List (DataW H)) (ps : List MemPlace)
    (hval0 : ∀ (j : Nat) t v, Try.f6.params[j]? = some t → args[j]? = some v → Value.okWide Try.prog W .any base t v)
    (hA : DataW.TrodAll enc Try.prog W 0 (fun _ => true) true Try.f6.params.toList args.toList ds ps) (_hlt : ∀ x ∈ ps, x.block < W.heap.size)
    (hsz : (DataW.weightsEach Try.prog Try.f6.params.toList ds).all (· ≤ reachBytes) = true) : Calls Try.prog 6 args W (LawPost W) := by
  have hval := hval0
  rw [Try.params6] at hA hval hsz
  obtain ⟨v0, vs0, d0, ds0, p0, q0, hargs, rfl, rfl, h0, r0⟩ := trodAll_cons hA
  obtain ⟨v1, vs1, d1, ds1, p1, q1, rfl, rfl, rfl, h1, r1⟩ := trodAll_cons r0
  obtain ⟨rfl, rfl, rfl⟩ := trodAll_nil r1
  obtain rfl : args = #[v0, v1] := by cases args; simp_all
  obtain ⟨A, b, c, rfl, _, _, hB⟩ := open_barg (hval 0 _ v0 rfl rfl) h0
  obtain ⟨Am, cm, m, rfl⟩ := open_marg (hval 1 _ v1 rfl rfl) h1
  exact walk A c b Am cm m W hB

set_option maxRecDepth 100000 in
theorem over : Rows.ringNilRow.holds Try.pinned (OpenSpec.ofChange Rows.ringNilSpec) :=
  OpenClaim.holds_of_wide 6 Try.f6 rfl rfl rfl rfl rfl rfl rfl ⟨rfl, rfl, rfl, rfl, rfl⟩ rfl rfl rfl rfl rfl (by kernel_rfl) Try.func6 (by kernel_rfl)
    (of_decide_eq_true (by kernel_rfl)) (by unfold Func.isWrapper; first | (rw [if_pos (by decide +kernel)]; kernel_rfl) | (rw [if_neg (by decide +kernel)]; exact ⟨rfl, rfl⟩))
    (fun os started H enc _ => law_lifted (f := 6) (F := Try.f6) (s := Rows.ringNilSpec) os started H enc (by kernel_rfl) Try.func6 rfl rfl (by kernel_rfl) (by kernel_rfl)
      (fun ds hd => by match ds, hd with | [_, _], _ => rfl)
      (ChangeSpec.witness6 (enc := enc) (C := Try.checked) false ⟨#[], #[.slice none 0 0, .agg #[.int .i64 0, .int .i64 0, .int .i64 0, .int .i64 0, .int .i64 0, .int .i64 0, .int .i64 0, .int .i64 0, .slice none 0 0]], []⟩ 8 (by kernel_rfl) (by kernel_rfl) (by kernel_rfl) (by kernel_rfl))
      (fun W base args ds ps hv hA hlt hsz => from_args W base args ds ps hv hA hlt hsz))

/-- The statement. -/
theorem proved : Rows.RingNilSaid := over

end ringNil
end Go.Proofs.Ytljfblnpgeconaa
