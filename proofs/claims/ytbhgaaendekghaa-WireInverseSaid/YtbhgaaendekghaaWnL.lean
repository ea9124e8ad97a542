/-
  The law WireNil: on a nil pointer, End returns ErrState, and the others zero values.
  No conditions.
-/
import Derived.Test.YtbhgaaendekghaaWnI
namespace Go.Proofs.Ytbhgaaendekghaa
open Go.ChangeShapes Go.WideShapes Go.ChangeAt Go.RowKit Go.Deep

theorem RD.onlyNil {w w' : World} {p : Nat} {A : Option Addr} {c : Nat} {l : List UInt8} {pos : Nat} {f : Bool} (h : RD w p A c l pos f) (hO : Only Nil w w') : RD w' p A c l pos f :=
  ⟨h.box.onlyNil hO, (h.bytes.onlyNil hO (Nat.le_refl _)).up hO.size⟩

theorem end_failed (p : Nat) (A : Option Addr) (c : Nat) (w : World) (h : Blk w p 96 #[.slice A 2 c, .int .i64 0, .bool true]) :
    Calls Try.prog 25 #[.pointer (some ⟨p, 0, none⟩)] w fun e w' => e = .returned (.int .i64 4) ∧ Only Nil w w' := by
  have kb : ∀ i, w.cell? ⟨p, i, none⟩ = #[Value.slice A 2 c, .int .i64 0, .bool true][i]? := fun i => h.cell i
  clear h
  go_enter Try.func25, Try.ntmps25
  go_wp2_with fail
  go_quiet (fail)
  go_wp2_with fail
  go_ret
  exact ⟨rfl, by (repeat' (first | with_reducible exact Only.refl _ _ | with_reducible refine Only.setCell ?_ (Or.inl ?_) _ | with_reducible refine Only.drewN ?_ _ | with_reducible refine Only.drew ?_ | with_reducible refine Only.alloc ?_ _ | (fail)))⟩

set_option maxRecDepth 100000 in
set_option maxHeartbeats 2000000 in
theorem awake_any (w : World) : Calls Try.prog 9 #[] w (LawPost w) := by
  have E1 := Lib.hid enc64
  have E2 := Lib.hid encM1
  go_enter Try.func9, Try.ntmps9
  go_wp2_with fail
  refine (read_any (some ⟨w.heap.size, 0, none⟩) 2 [128, 0] _ (Bs.marked w [128, 0] 5 (0, 0) _ rfl) (by decide)).mono ?_
  rintro x w1 ⟨p, A, c, rfl, hp, hR, hc, hO⟩
  have HR := Lib.hid hR
  have hO1 : Only Nil w w1 := ((Only.refl _ _).alloc _).thenNil hO
  have HO1 := Lib.hid hO1
  have HC := Lib.hid hc
  have HP : Hid (w.heap.size ≤ p) := Lib.hid (by rw [World.size_alloc] at hp; omega)
  clear hR hO hO1 hc hp
  go_wp2_with fail
  refine (int_any none 0 w1.heap.size [] 64 w1 (Nat.le_refl _) (World.ownsRow_nil _ _ _ _) (by simp) (by omega)).mono ?_
  rw [E1.out]
  rintro x w2 ⟨A2, c2, rfl, hc2, hown2, hq2, hO2⟩
  have hO2' : Only Nil w1 w2 := hO2.more (fun x hx => by cases hx)
  have hown2 : w2.ownsRow w1.heap.size 5 1 (.slice A2 2 c2) 2 (bcells [128, 1]) := hown2
  have HW2 := Lib.hid hown2
  have HO2 := Lib.hid hO2'
  clear hown2 hO2 hO2' hq2 hc2
  go_wp2_with fail
  refine (same_any A2 (some ⟨w2.heap.size, 0, none⟩) c2 2 [128, 1] [128, 1] _ (((Bs.of_own (l := [128, 1]) HW2.out).1.onlyNil ((Only.refl _ _).alloc _) (Nat.le_refl _)).up ((Only.refl Nil _).alloc _).size) (Bs.marked w2 [128, 1] 5 (0, 0) _ rfl)).mono ?_
  rintro x w3 ⟨rfl, rfl⟩
  have HO3 : Hid (∀ o, Only Nil w (w2.alloc o)) := Lib.hid (fun o => (HO1.out.thenNil HO2.out).alloc o)
  have HR3 : Hid (∀ o, RD (w2.alloc o) p A c [128, 0] 0 false) := Lib.hid (fun o => (HR.out.onlyNil HO2.out).onlyNil ((Only.refl _ _).alloc o))
  go_wp2_with fail
  have hown4 : ((w2.alloc (.cells (bcells [128, 1]).toArray 5)).alloc (.cells #[.int .u8 7] 5)).ownsRow (w2.heap.size + 1) 5 1 (.slice (some ⟨w2.heap.size + 1, 0, none⟩) 1 1) 1 (bcells [7]) := by
    have := World.ownsRow_lit (base := w2.heap.size + 1) (e := 5) (size := 1) (w2.alloc (.cells (bcells [128, 1]).toArray 5)) #[.int .u8 7] 1 (by rw [World.size_alloc]; exact Nat.le_refl _) (by unfold maxLen; omega) rfl
    rw [World.size_alloc] at this
    exact this
  refine (int_any (some ⟨w2.heap.size + 1, 0, none⟩) 1 (w2.heap.size + 1) [7] (-1) _ (by rw [World.size_alloc, World.size_alloc]; omega) hown4 (by simp) (by omega)).mono ?_
  rw [E2.out]
  rintro x w4 ⟨A4, c4, rfl, hc4, hown5, hq4, hO4⟩
  have hO4' : Only Nil w w4 := ((HO3.out _).alloc _).trans hO4 (fun x hx => .inr (by
    have h1 : w2.heap.size + 1 = x := by simpa [Value.ownBlock] using hx
    have := HO1.out.size
    have := HO2.out.size
    omega))
  have hR4 : RD w4 p A c [128, 0] 0 false := by
    have hlt := (HR.out.onlyNil HO2.out).box.lt
    have hb := ((HR3.out (.cells (bcells [128, 1]).toArray 5)).onlyNil ((Only.refl _ _).alloc (.cells #[.int .u8 7] 5)))
    refine ⟨hb.box.only hO4 (fun hx => ?_), ?_⟩
    · have h1 : w2.heap.size + 1 = p := by simpa [Value.ownBlock] using hx
      omega
    · have h2 := (HR.out.onlyNil HO2.out).bytes
      have hOz : Only Nil w2 w4 := (((Only.refl Nil w2).alloc _).alloc _).trans hO4 (fun x hx => .inr (by
        have h1 : w2.heap.size + 1 = x := by simpa [Value.ownBlock] using hx
        omega))
      exact (h2.onlyNil hOz (Nat.le_refl _)).up hOz.size
  have hown5 : w4.ownsRow (w2.heap.size + 1) 5 1 (.slice A4 2 c4) 2 (bcells [7, 1]) := hown5
  have HW5 := Lib.hid hown5
  have HO4 := Lib.hid hO4'
  have HR4 := Lib.hid hR4
  clear hown4 hown5 hO4 hO4' hR4 hq4 hc4
  go_wp2_with fail
  refine (same_any A4 (some ⟨w4.heap.size, 0, none⟩) c4 2 [7, 1] [7, 1] _ (((Bs.of_own (l := [7, 1]) HW5.out).1.onlyNil ((Only.refl _ _).alloc _) (Nat.le_refl _)).up ((Only.refl Nil _).alloc _).size) (Bs.marked w4 [7, 1] 5 (0, 0) _ rfl)).mono ?_
  rintro x w5 ⟨rfl, rfl⟩
  have HO5 : Hid (∀ o, Only Nil w (w4.alloc o)) := Lib.hid (fun o => HO4.out.alloc o)
  have HR5 : Hid (∀ o, RD (w4.alloc o) p A c [128, 0] 0 false) := Lib.hid (fun o => HR4.out.onlyNil ((Only.refl _ _).alloc o))
  go_wp2_with fail
  refine (string_ab _).mono ?_
  rintro x w6 ⟨A6, c6, rfl, hb6, hO6⟩
  have HB6 := Lib.hid hb6
  have HO6 := Lib.hid ((HO5.out _).thenNil hO6)
  have HR6 := Lib.hid ((HR5.out _).onlyNil hO6)
  clear hb6 hO6
  go_wp2_with fail
  refine (same_any A6 (some ⟨w6.heap.size, 0, none⟩) c6 3 [4, 97, 98] [4, 97, 98] _ ((HB6.out.onlyNil ((Only.refl _ _).alloc _) (Nat.le_refl _)).up ((Only.refl Nil _).alloc _).size) (Bs.marked w6 [4, 97, 98] 5 (0, 0) _ rfl)).mono ?_
  rintro x w7 ⟨rfl, rfl⟩
  have HO7 : Hid (∀ o, Only Nil w (w6.alloc o)) := Lib.hid (fun o => HO6.out.alloc o)
  have HR7 : Hid (∀ o, RD (w6.alloc o) p A c [128, 0] 0 false) := Lib.hid (fun o => HR6.out.onlyNil ((Only.refl _ _).alloc o))
  go_wp2_with fail
  refine (rint_bad p A c _ (HR7.out _) HC.out).mono ?_
  rintro x w8 ⟨rfl, hb8, hO8⟩
  have HO8 := Lib.hid ((HO7.out _).trans hO8 (fun x hx => .inr (by have := HP.out; unfold One at hx; omega)))
  have HB8 := Lib.hid hb8
  clear hb8 hO8
  go_wp2_with fail
  refine (end_failed p A c _ HB8.out).mono ?_
  rintro x w9 ⟨rfl, hO9⟩
  go_wp2_with fail
  go_ret
  exact ⟨rfl, HO8.out.thenNil hO9⟩

set_option maxRecDepth 100000 in
theorem open_step {H : Type} {enc : TypeId × Value → H} {W : World} {v : Value} {d : DataW H} {p : List MemPlace} {base : Nat}
    (hv : Value.okWide Try.prog W .any base 83 v) (h : DataW.Trod enc Try.prog W 0 (fun _ => true) true 83 v d p) :
    ∃ k a b : Int, v = .agg #[.int .i64 k, .int .i64 a, .int .i64 b] := by
  obtain ⟨cs, rfl, _⟩ := okWide_struct Try.underlying83 hv
  obtain ⟨fuel, hf⟩ := h
  obtain ⟨ys, n', hn', hy, hlen, hyl, hg⟩ := DataW.trod_struct Try.underlying83 hf
  have e1 : Try.prog.cellsOf 3 = 1 := by kernel_rfl
  have hl : cs.toList.length = 3 := by
    have : cs.toList.length = Try.prog.cellsOf 83 := hlen
    have hc3 : Try.prog.cellsOf 83 = 3 := by kernel_rfl
    omega
  have hyl : ys.length = 3 := hyl
  have one : ∀ k, k < 3 → ∃ v, cs.toList[k]? = some v ∧ List.take 1 (List.drop k cs.toList) = [v] := fun k hk => by
    refine ⟨cs.toList[k]'(by omega), List.getElem?_eq_getElem _, ?_⟩
    rw [List.drop_eq_getElem_cons (by omega)]
    rfl
  have ysome : ∀ k, k < 3 → ∃ y, ys[k]? = some y := fun k hk => ⟨ys[k]'(by omega), List.getElem?_eq_getElem _⟩
  have t0 : DataW.trod enc Try.prog W 0 (fun _ => true) true n' 3 (List.take (Try.prog.cellsOf 3) (List.drop 0 cs.toList)) = ys[0]? := hg 0 _ rfl
  have t1 : DataW.trod enc Try.prog W 0 (fun _ => true) true n' 3 (List.take (Try.prog.cellsOf 3) (List.drop 1 cs.toList)) = ys[1]? := hg 1 _ rfl
  have t2 : DataW.trod enc Try.prog W 0 (fun _ => true) true n' 3 (List.take (Try.prog.cellsOf 3) (List.drop 2 cs.toList)) = ys[2]? := hg 2 _ rfl
  obtain ⟨v0, c0, d0⟩ := one 0 (by omega)
  obtain ⟨v1, c1, d1⟩ := one 1 (by omega)
  obtain ⟨v2, c2, d2⟩ := one 2 (by omega)
  obtain ⟨y0, h0⟩ := ysome 0 (by omega)
  obtain ⟨y1, h1⟩ := ysome 1 (by omega)
  obtain ⟨y2, h2⟩ := ysome 2 (by omega)
  rw [e1, d0, h0] at t0
  rw [e1, d1, h1] at t1
  rw [e1, d2, h2] at t2
  obtain ⟨x0, q0, _, _⟩ := DataW.trod_int Try.underlying3 t0
  obtain ⟨x1, q1, _, _⟩ := DataW.trod_int Try.underlying3 t1
  obtain ⟨x2, q2, _, _⟩ := DataW.trod_int Try.underlying3 t2
  simp at q0 q1 q2
  refine ⟨x0, x1, x2, ?_⟩
  have hcs' : cs.toList = [.int .i64 x0, .int .i64 x1, .int .i64 x2] := by
    apply List.ext_getElem?
    intro i
    match i with
    | 0 => rw [c0, q0]; rfl
    | 1 => rw [c1, q1]; rfl
    | 2 => rw [c2, q2]; rfl
    | n + 3 => rw [List.getElem?_eq_none (by rw [hl]; omega), List.getElem?_eq_none (by show 3 ≤ n + 3; omega)]
  have : cs = #[.int .i64 x0, .int .i64 x1, .int .i64 x2] := by rw [← Array.toList_inj]; exact hcs'
  rw [this]

namespace wireNil
set_option maxRecDepth 100000 in
set_option maxHeartbeats 2000000 in
theorem walk (k a b : Int) (w : World) : Calls Try.prog 8 #[.agg #[.int .i64 k, .int .i64 a, .int .i64 b]] w (LawPost w) := by
  obtain ⟨w2, hw2⟩ : ∃ w2, w2 = w.alloc (.cells #[.int .i64 k, .int .i64 a, .int .i64 b] 83) := ⟨_, rfl⟩
  have HX : Hid (Blk w2 w.heap.size 83 #[.int .i64 k, .int .i64 a, .int .i64 b]) := Lib.hid (by rw [hw2]; exact Blk.new _ _ _)
  have HXO : Hid (Only Nil w w2) := Lib.hid (by rw [hw2]; exact (Only.refl _ _).alloc _)
  go_enter Try.func8, Try.ntmps8
  go_wp2_with fail
  refine (awake_any _).mono ?_
  rintro x u0 ⟨rfl, hO0⟩
  have O0 : Hid (Only Nil w2 u0) := Lib.hid (by rw [hw2]; exact hO0)
  clear hO0 hw2
  go_wp2_with fail
  refine (rfail_nil _).mono ?_
  rintro x u1 ⟨v, rfl, rfl⟩
  have k0 : ∀ i, u1.cell? ⟨w.heap.size, i, none⟩ = #[Value.int .i64 k, .int .i64 a, .int .i64 b][i]? := fun i => (HX.out.onlyNil O0.out).cell i
  go_wp2_with fail
  refine (rint_nil _).mono ?_
  rintro x v1 ⟨rfl, hO1⟩
  have O1 := Lib.hid (O0.out.thenNil hO1)
  have k1 : ∀ i, v1.cell? ⟨w.heap.size, i, none⟩ = #[Value.int .i64 k, .int .i64 a, .int .i64 b][i]? := fun i => (HX.out.onlyNil O1.out).cell i
  clear hO1 k0
  go_wp2_with fail
  refine (rbounded_nil _ _ _).mono ?_
  rintro x v2 ⟨rfl, hO2⟩
  have O2 := Lib.hid (O1.out.thenNil hO2)
  have k2 : ∀ i, v2.cell? ⟨w.heap.size, i, none⟩ = #[Value.int .i64 k, .int .i64 a, .int .i64 b][i]? := fun i => (HX.out.onlyNil O2.out).cell i
  clear hO2 k1
  go_wp2_with fail
  refine (rbool_nil _).mono ?_
  rintro x v3 ⟨rfl, hO3⟩
  have O3 := Lib.hid (O2.out.thenNil hO3)
  have k3 : ∀ i, v3.cell? ⟨w.heap.size, i, none⟩ = #[Value.int .i64 k, .int .i64 a, .int .i64 b][i]? := fun i => (HX.out.onlyNil O3.out).cell i
  clear hO3 k2
  go_wp2_with fail
  refine (rstring_nil _ _).mono ?_
  rintro x v4 ⟨rfl, hO4⟩
  have O4 := Lib.hid (O3.out.thenNil hO4)
  have k4 : ∀ i, v4.cell? ⟨w.heap.size, i, none⟩ = #[Value.int .i64 k, .int .i64 a, .int .i64 b][i]? := fun i => (HX.out.onlyNil O4.out).cell i
  clear hO4 k3
  go_wp2_with fail
  refine (rbytes_nil _ _).mono ?_
  rintro x v5 ⟨rfl, hO5⟩
  have O5 := Lib.hid (O4.out.thenNil hO5)
  have k5 : ∀ i, v5.cell? ⟨w.heap.size, i, none⟩ = #[Value.int .i64 k, .int .i64 a, .int .i64 b][i]? := fun i => (HX.out.onlyNil O5.out).cell i
  clear hO5 k4
  go_wp2_with fail
  refine (rints_nil _ _).mono ?_
  rintro x v6 ⟨rfl, hO6⟩
  have O6 := Lib.hid (O5.out.thenNil hO6)
  have k6 : ∀ i, v6.cell? ⟨w.heap.size, i, none⟩ = #[Value.int .i64 k, .int .i64 a, .int .i64 b][i]? := fun i => (HX.out.onlyNil O6.out).cell i
  clear hO6 k5
  go_wp2_with fail
  refine (rstrings_nil _ _).mono ?_
  rintro x v7 ⟨rfl, hO7⟩
  have O7 := Lib.hid (O6.out.thenNil hO7)
  have k7 : ∀ i, v7.cell? ⟨w.heap.size, i, none⟩ = #[Value.int .i64 k, .int .i64 a, .int .i64 b][i]? := fun i => (HX.out.onlyNil O7.out).cell i
  clear hO7 k6
  go_wp2_with fail
  refine (rmsg_nil _).mono ?_
  rintro x v8 ⟨rfl, hO8⟩
  have O8 := Lib.hid (O7.out.thenNil hO8)
  have k8 : ∀ i, v8.cell? ⟨w.heap.size, i, none⟩ = #[Value.int .i64 k, .int .i64 a, .int .i64 b][i]? := fun i => (HX.out.onlyNil O8.out).cell i
  clear hO8 k7
  go_wp2_with fail
  refine (sameMsg_zero _).mono ?_
  rintro x v9 ⟨rfl, hO9⟩
  have O9 := Lib.hid (O8.out.thenNil hO9)
  have k9 : ∀ i, v9.cell? ⟨w.heap.size, i, none⟩ = #[Value.int .i64 k, .int .i64 a, .int .i64 b][i]? := fun i => (HX.out.onlyNil O9.out).cell i
  clear hO9 k8
  go_wp2_with fail
  refine (reffects_nil _).mono ?_
  rintro x v10 ⟨rfl, hO10⟩
  have O10 := Lib.hid (O9.out.thenNil hO10)
  have k10 : ∀ i, v10.cell? ⟨w.heap.size, i, none⟩ = #[Value.int .i64 k, .int .i64 a, .int .i64 b][i]? := fun i => (HX.out.onlyNil O10.out).cell i
  clear hO10 k9
  go_wp2_with fail
  refine (rentry_nil _).mono ?_
  rintro x v11 ⟨rfl, hO11⟩
  have O11 := Lib.hid (O10.out.thenNil hO11)
  have k11 : ∀ i, v11.cell? ⟨w.heap.size, i, none⟩ = #[Value.int .i64 k, .int .i64 a, .int .i64 b][i]? := fun i => (HX.out.onlyNil O11.out).cell i
  clear hO11 k10
  go_wp2_with fail
  refine (sameEntry_zero _).mono ?_
  rintro x v12 ⟨rfl, hO12⟩
  have O12 := Lib.hid (O11.out.thenNil hO12)
  have k12 : ∀ i, v12.cell? ⟨w.heap.size, i, none⟩ = #[Value.int .i64 k, .int .i64 a, .int .i64 b][i]? := fun i => (HX.out.onlyNil O12.out).cell i
  clear hO12 k11
  go_wp2_with fail
  refine (rleft_nil _).mono ?_
  rintro x z1 ⟨rfl, rfl⟩
  go_wp2_with fail
  refine (rend_nil _).mono ?_
  rintro x z2 ⟨rfl, rfl⟩
  go_wp2_with fail
  go_ret
  exact ⟨rfl, HXO.out.thenNil O12.out⟩

set_option maxRecDepth 100000 in
theorem from_args {H : Type} {enc : TypeId × Value → H} (W : World) (base : Nat) (args : Array Value) (ds : List (DataW H)) (ps : List MemPlace)
    (hval0 : ∀ (j : Nat) t v, Try.f8.params[j]? = some t → args[j]? = some v → Value.okWide Try.prog W .any base t v)
    (hA : DataW.TrodAll enc Try.prog W 0 (fun _ => true) true Try.f8.params.toList args.toList ds ps) (_hlt : ∀ x ∈ ps, x.block < W.heap.size)
    (hsz : (DataW.weightsEach Try.prog Try.f8.params.toList ds).all (· ≤ reachBytes) = true) : Calls Try.prog 8 args W (LawPost W) := by
  have hval := hval0
  rw [Try.params8] at hA hval hsz
  obtain ⟨v0, vs0, d0, ds0, p0, q0, hargs, rfl, rfl, h0, r0⟩ := trodAll_cons hA
  obtain ⟨rfl, rfl, rfl⟩ := trodAll_nil r0
  obtain rfl : args = #[v0] := by cases args; simp_all
  obtain ⟨k, a, b, rfl⟩ := open_step (hval 0 _ v0 rfl rfl) h0
  exact walk k a b W

set_option maxRecDepth 100000 in
theorem over : Rows.wireNilRow.holds Try.pinned (OpenSpec.ofChange Rows.wireNilSpec) :=
  OpenClaim.holds_of_wide 8 Try.f8 rfl rfl rfl rfl rfl rfl rfl ⟨rfl, rfl, rfl, rfl, rfl⟩ rfl rfl rfl rfl rfl (by kernel_rfl) Try.func8 (by kernel_rfl)
    (of_decide_eq_true (by kernel_rfl)) (by unfold Func.isWrapper; first | (rw [if_pos (by decide +kernel)]; kernel_rfl) | (rw [if_neg (by decide +kernel)]; exact ⟨rfl, rfl⟩))
    (fun os started H enc _ => law_lifted (f := 8) (F := Try.f8) (s := Rows.wireNilSpec) os started H enc (by kernel_rfl) Try.func8 rfl rfl (by kernel_rfl) (by kernel_rfl)
      (fun ds hd => by match ds, hd with | [_], _ => rfl)
      (ChangeSpec.witness6 (enc := enc) (C := Try.checked) false ⟨#[], #[.agg #[.int .i64 0, .int .i64 0, .int .i64 0]], []⟩ 8 (by kernel_rfl) (by kernel_rfl) (by kernel_rfl) (by kernel_rfl))
      (fun W base args ds ps hv hA hlt hsz => from_args W base args ds ps hv hA hlt hsz))

/-- The statement. -/
theorem proved : Rows.WireNilSaid := over

end wireNil
end Go.Proofs.Ytbhgaaendekghaa
