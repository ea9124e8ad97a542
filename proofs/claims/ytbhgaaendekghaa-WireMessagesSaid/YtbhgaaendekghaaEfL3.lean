/-
  The law WireMessages: Msg, Effects and Entry return the specified bytes, from which the values are read again.
  No conditions.
-/
import Derived.Test.YtbhgaaendekghaaEfM
import Derived.Test.YtbhgaaendekghaaEfI
import Derived.Test.YtbhgaaendekghaaEfO
import Derived.Test.YtbhgaaendekghaaEfS
import Derived.Test.YtbhgaaendekghaaEfE
import Derived.Test.YtbhgaaendekghaaEfN3
import Derived.Deep.RegionHeld3
import Derived.Laws.Externs
namespace Go.Proofs.Ytbhgaaendekghaa
open Go.ChangeShapes Go.WideShapes Go.ChangeAt Go.RowKit Go.Deep

set_option maxRecDepth 100000 in
/-- A message as an argument. -/
theorem open_msg {H : Type} {enc : TypeId × Value → H} {W : World} {v : Value} {d : DataW H} {p : List MemPlace} {base : Nat}
    (hv : Value.okWide Try.prog W .any base 26 v) (h : DataW.Trod enc Try.prog W 0 (fun _ => true) true 26 v d p) :
    ∃ (A : Option Addr) (c : Nat) (m : M), v = .agg (mcells A c m).toArray ∧ MOk W W.heap.size A c m := by
  obtain ⟨cs, rfl, _⟩ := okWide_struct Try.underlying26 hv
  obtain ⟨fuel, hf⟩ := h
  obtain ⟨A, c, m, hc, hok⟩ := msg_of_trod (cs := cs.toList) hf
  exact ⟨A, c, m, by rw [← hc, Array.toArray_toList], hok⟩
set_option maxRecDepth 100000 in
/-- An entry as an argument. -/
theorem open_entry {H : Type} {enc : TypeId × Value → H} {W : World} {v : Value} {d : DataW H} {p : List MemPlace} {base : Nat}
    (hv : Value.okWide Try.prog W .any base 35 v) (h : DataW.Trod enc Try.prog W 0 (fun _ => true) true 35 v d p) :
    ∃ r : ER, v = .agg r.cells.toArray ∧ ER.ok W W.heap.size r := by
  obtain ⟨cs, rfl, _⟩ := okWide_struct Try.underlying35 hv
  obtain ⟨fuel, hf⟩ := h
  obtain ⟨r, hc, hok⟩ := entry_of_trod (cs := cs.toList) hf
  exact ⟨r, by rw [← hc, Array.toArray_toList], hok⟩
theorem shFs_step {l : List Ef} {k : Nat} {x : Ef} (h : l[k]? = some x) (b : Bool) : (b && (l.take (k + 1)).all shF) = (b && (l.take k).all shF && shF x) := by
  obtain ⟨h1, h2⟩ := List.getElem?_eq_some_iff.1 h
  rw [List.take_succ_eq_append_getElem h1, h2, List.all_append]
  simp [Bool.and_assoc]

namespace wireMessages
set_option maxRecDepth 100000 in
set_option maxHeartbeats 8000000 in
theorem walk (Am : Option Addr) (cm : Nat) (m : M) (A : Option Addr) (ca : Nat) (rs : List FR) (r : ER) (B : Nat) (w : World) (hm : MOk w w.heap.size Am cm m) (hE : Fs w w.heap.size A rs) (hal : rs.length ≤ ca) (hca : ca ≤ maxLen) (hB : B ≤ 140737488355328) (hd : ∀ r ∈ rs, r.x.data.length ≤ B ∧ r.x.msg.data.length ≤ B) (hr : ER.ok w w.heap.size r) :
    Calls Try.prog 6 #[.agg (mcells Am cm m).toArray, .slice A rs.length ca, .agg r.cells.toArray] w (LawPost w) := by
  have hfa := fun w' (hO : Only Nil w w') => Ref.few_any A ca rs w' (hE.next hO) (by omega) B hB (fun x hx => by
    obtain ⟨q, hq, rfl⟩ := List.mem_map.1 hx
    exact hd q hq)
  obtain ⟨fa, hfa1⟩ : ∃ f, fewF (rs.map FR.x) = f := ⟨_, rfl⟩
  rw [hfa1] at hfa
  obtain ⟨N, hN⟩ : ∃ N, rs.length = N := ⟨_, rfl⟩
  rw [hN] at hfa hal ⊢
  obtain ⟨m0, m1, m2, m3, m4, m5, m6, m7, md⟩ := m
  obtain ⟨Ae, ce, ⟨e0, e1, e2, e3, e4, e5, e6, ed⟩⟩ := r
  have HMO := Lib.hid hm
  have HRO := Lib.hid hr
  have HA := Lib.hid hE
  have HFA := Lib.hid hfa
  have HFA1 := Lib.hid hfa1
  have HN := Lib.hid hN
  unfold maxLen at hca
  obtain ⟨gm, hgm⟩ : ∃ g, g = w.heap.size := ⟨_, rfl⟩
  obtain ⟨ge, hge⟩ : ∃ g, g = gm + 1 := ⟨_, rfl⟩
  obtain ⟨w0, hw0⟩ : ∃ w0, w0 = (w.alloc (.cells #[Value.int .i64 m0, .int .i64 m1, .int .i64 m2, .int .i64 m3, .int .i64 m4, .int .i64 m5, .int .i64 m6, .int .i64 m7, .slice Am md.length cm] 26)).alloc (.cells #[Value.int .i64 e0, .int .i64 e1, .int .i64 e2, .int .i64 e3, .int .i64 e4, .int .i64 e5, .int .i64 e6, .slice Ae ed.length ce] 35) := ⟨_, rfl⟩
  have hO0 : Only Nil w w0 := by rw [hw0]; exact ((Only.refl _ _).alloc _).alloc _
  have B1 : Hid (Blk w0 gm 26 #[Value.int .i64 m0, .int .i64 m1, .int .i64 m2, .int .i64 m3, .int .i64 m4, .int .i64 m5, .int .i64 m6, .int .i64 m7, .slice Am md.length cm]) := Lib.hid (by rw [hw0, hgm]; exact (Blk.new _ _ _).alloc _)
  have B2 : Hid (Blk w0 ge 35 #[Value.int .i64 e0, .int .i64 e1, .int .i64 e2, .int .i64 e3, .int .i64 e4, .int .i64 e5, .int .i64 e6, .slice Ae ed.length ce]) := Lib.hid (by
    rw [hw0, hge, hgm]
    have := Blk.new (w.alloc (.cells #[Value.int .i64 m0, .int .i64 m1, .int .i64 m2, .int .i64 m3, .int .i64 m4, .int .i64 m5, .int .i64 m6, .int .i64 m7, .slice Am md.length cm] 26)) 35 #[Value.int .i64 e0, .int .i64 e1, .int .i64 e2, .int .i64 e3, .int .i64 e4, .int .i64 e5, .int .i64 e6, .slice Ae ed.length ce]
    rw [World.size_alloc] at this
    exact this)
  have K1 : Hid (∀ u, Only Nil w0 u → ∀ i, u.cell? ⟨gm, i, none⟩ = #[Value.int .i64 m0, .int .i64 m1, .int .i64 m2, .int .i64 m3, .int .i64 m4, .int .i64 m5, .int .i64 m6, .int .i64 m7, .slice Am md.length cm][i]?) := Lib.hid (fun u hu i => (B1.out.onlyNil hu).cell i)
  have K2 : Hid (∀ u, Only Nil w0 u → ∀ i, u.cell? ⟨ge, i, none⟩ = #[Value.int .i64 e0, .int .i64 e1, .int .i64 e2, .int .i64 e3, .int .i64 e4, .int .i64 e5, .int .i64 e6, .slice Ae ed.length ce][i]?) := Lib.hid (fun u hu i => (B2.out.onlyNil hu).cell i)
  have HO0 := Lib.hid hO0
  have HGM := Lib.hid hgm
  have HGE := Lib.hid hge
  have HW0 : Hid (w0 = (w.alloc (.cells #[Value.int .i64 m0, .int .i64 m1, .int .i64 m2, .int .i64 m3, .int .i64 m4, .int .i64 m5, .int .i64 m6, .int .i64 m7, .slice Am md.length cm] 26)).alloc (.cells #[Value.int .i64 e0, .int .i64 e1, .int .i64 e2, .int .i64 e3, .int .i64 e4, .int .i64 e5, .int .i64 e6, .slice Ae ed.length ce] 35)) := Lib.hid hw0
  unfold mcells ER.cells
  dsimp only
  clear hm hE hfa hN hfa1 hr hd hB hw0 hgm hge hO0 B1 B2
  go_enter Try.func6, Try.ntmps6
  go_upto_region 1 with fail
  rw [← HGM.out, HGE.out.symm, ← HW0.out]
  go_wp2_with fail
  refine (awake_any _).mono ?_
  rintro x w1 ⟨rfl, hO1⟩
  have HO1 := Lib.hid hO1
  clear hO1
  go_wp2_with fail
  refine (HFA.out _ (HO0.out.thenNil HO1.out)).mono ?_
  rintro x w2 ⟨rfl, hO2⟩
  have HO2 := Lib.hid (HO1.out.thenNil hO2)
  clear hO2
  cases fa
  · go_wp2_with fail
    refine bodyPost_ret (v := .bool true) (by simp [results, Try.results6, go_sem]) rfl ?_
    exact ⟨rfl, HO0.out.thenNil HO2.out⟩
  have k1 := K1.out w2 HO2.out
  have k2 := K2.out w2 HO2.out
  by_cases hX : md.length ≤ 2000
  rotate_left
  · have hx : (2000 : Int) < (md.length : Int) := by omega
    clear hX
    go_wp2_with fail
    refine bodyPost_ret (v := .bool true) (by simp [results, Try.results6, go_sem]) rfl ?_
    exact ⟨rfl, HO0.out.thenNil HO2.out⟩
  have hx : ¬ (2000 : Int) < (md.length : Int) := by omega
  by_cases hY : ed.length ≤ 2000
  rotate_left
  · have hy : (2000 : Int) < (ed.length : Int) := by omega
    clear hX hY
    go_wp2_with fail
    refine bodyPost_ret (v := .bool true) (by simp [results, Try.results6, go_sem]) rfl ?_
    exact ⟨rfl, HO0.out.thenNil HO2.out⟩
  have hy : ¬ (2000 : Int) < (ed.length : Int) := by omega
  -- the lists' sizes
  have h1 := fewF_of HFA1.out
  rw [List.length_map, HN.out] at h1
  have hok : ∀ r ∈ rs, r.x.okay ∧ r.x.msg.data.length ≤ 20000 ∧ r.x.data.length ≤ 20000 := fun r hr => by
    have h2 := sumD_mem (List.mem_map.2 ⟨r, hr, rfl⟩ : r.x ∈ rs.map FR.x)
    exact ⟨⟨(HA.out.ok r hr).fits, by omega, by omega⟩, by omega, by omega⟩
  have hoks : ∀ x ∈ rs.map FR.x, x.okay := fun x hx => by
    obtain ⟨q, hq, rfl⟩ := List.mem_map.1 hx
    exact (hok q hq).1
  have hLb := encFn_len hoks
  have hLi := encI_len (N : Int) (zig_lt (by omega))
  have hL2 : (encFs (rs.map FR.x)).length ≤ 100000 := by
    unfold encFs
    rw [List.length_append, List.length_map, HN.out]
    rw [List.length_map, HN.out] at hLb
    omega
  have hLm := encM_len (m := ⟨m0, m1, m2, m3, m4, m5, m6, m7, md⟩) HMO.out.fits (by dsimp only; omega)
  have hLe : (encE ⟨e0, e1, e2, e3, e4, e5, e6, ed⟩).length ≤ 2200 := by
    rw [encE_eq, List.length_append, List.length_append]
    have h1 := encL_len HRO.out.fits.nums
    have h2 := encI_len (ed.length : Int) (zig_lt (by omega))
    unfold En.nums at *
    simp only [List.length_cons, List.length_nil] at h1
    dsimp only at h1 ⊢
    omega
  have rM := readMs_enc (m := ⟨m0, m1, m2, m3, m4, m5, m6, m7, md⟩) HMO.out.fits (by dsimp only; omega)
  have rE := readE_enc1 (m := ⟨e0, e1, e2, e3, e4, e5, e6, ed⟩) HRO.out.fits (by dsimp only; omega)
  have rF := readFs_enc (l := rs.map FR.x) (by rw [List.length_map, HN.out]; omega) hoks
  -- the calls' contracts
  have cM : ∀ u, Only Nil w u → Calls Try.prog 26 #[.slice none 0 0, .agg (mcells Am cm ⟨m0, m1, m2, m3, m4, m5, m6, m7, md⟩).toArray] u (EncPost (encM ⟨m0, m1, m2, m3, m4, m5, m6, m7, md⟩) u) := fun u hO => by
    have := wmsg_any none 0 u.heap.size [] Am cm ⟨m0, m1, m2, m3, m4, m5, m6, m7, md⟩ u (Nat.le_refl _) (World.ownsRow_nil _ _ _ _) (Nat.le_refl _) HMO.out.fits ((HMO.out.data.onlyNil hO (Nat.le_refl _)).up hO.size) (by dsimp only; omega) (by simp)
    rw [List.nil_append] at this
    refine this.mono ?_
    rintro x u' ⟨A2, c2, rfl, h1, h2, _, h3⟩
    exact ⟨A2, c2, rfl, h1, h2, h3.more (fun x hx => by have h0 : (none : Option Nat) = some x := hx; cases h0)⟩
  have cF : ∀ u, Only Nil w u → Calls Try.prog 22 #[.slice none 0 0, .slice A N ca] u (EncPost (encFs (rs.map FR.x)) u) := fun u hO => by
    have := weffects_any A ca rs u (HA.out.next hO) (by rw [HN.out]; omega) (fun r hr => ⟨by have := (hok r hr).2.1; omega, by have := (hok r hr).2.2; omega⟩)
    rwa [HN.out] at this
  have cE : ∀ u, Only Nil w u → Calls Try.prog 43 #[.slice none 0 0, .agg (ER.cells ⟨Ae, ce, ⟨e0, e1, e2, e3, e4, e5, e6, ed⟩⟩).toArray] u (EncPost (encE ⟨e0, e1, e2, e3, e4, e5, e6, ed⟩) u) := fun u hO => entry_enc ⟨Ae, ce, ⟨e0, e1, e2, e3, e4, e5, e6, ed⟩⟩ u ((HRO.out.onlyNil hO (Nat.le_refl _)).up hO.size) (by dsimp only; omega)
  have dM : ∀ u, Only Nil w u → Calls Try.prog 45 #[.agg (mcells Am cm ⟨m0, m1, m2, m3, m4, m5, m6, m7, md⟩).toArray] u (EncPost (encM ⟨m0, m1, m2, m3, m4, m5, m6, m7, md⟩) u) := fun u hO => Ref.msg_any Am cm ⟨m0, m1, m2, m3, m4, m5, m6, m7, md⟩ u HMO.out.fits ((HMO.out.data.onlyNil hO (Nat.le_refl _)).up hO.size) (by dsimp only; omega)
  have dF : ∀ u, Only Nil w u → Calls Try.prog 46 #[.slice A N ca] u (EncPost (encFs (rs.map FR.x)) u) := fun u hO => by
    have := Ref.effects_any A ca rs u (HA.out.next hO) (by rw [HN.out]; omega) (fun r hr => ⟨by have := (hok r hr).2.1; omega, by have := (hok r hr).2.2; omega⟩)
    rwa [HN.out] at this
  have dE : ∀ u, Only Nil w u → Calls Try.prog 47 #[.agg (ER.cells ⟨Ae, ce, ⟨e0, e1, e2, e3, e4, e5, e6, ed⟩⟩).toArray] u (EncPost (encE ⟨e0, e1, e2, e3, e4, e5, e6, ed⟩) u) := fun u hO => Ref.entry_any ⟨Ae, ce, ⟨e0, e1, e2, e3, e4, e5, e6, ed⟩⟩ u ((HRO.out.onlyNil hO (Nat.le_refl _)).up hO.size) (by dsimp only; omega)
  obtain ⟨Em, hEm⟩ : ∃ X, encM ⟨m0, m1, m2, m3, m4, m5, m6, m7, md⟩ = X := ⟨_, rfl⟩
  obtain ⟨Ef, hEf⟩ : ∃ X, encFs (rs.map FR.x) = X := ⟨_, rfl⟩
  obtain ⟨Ee, hEe⟩ : ∃ X, encE ⟨e0, e1, e2, e3, e4, e5, e6, ed⟩ = X := ⟨_, rfl⟩
  rw [hEm] at cM dM rM hLm
  rw [hEf] at cF dF rF hL2
  rw [hEe] at cE dE rE hLe
  unfold mcells at cM dM
  unfold ER.cells at cE dE
  dsimp only at cM dM cE dE hLm
  have lm : Em.length ≤ 1099511627776 := by omega
  have lf : Ef.length ≤ 1099511627776 := by omega
  have le : Ee.length ≤ 1099511627776 := by omega
  have HLM := Lib.hid lm
  have HLF := Lib.hid lf
  have HLE := Lib.hid le
  have CM := Lib.hid cM
  have CF := Lib.hid cF
  have CE := Lib.hid cE
  have DM := Lib.hid dM
  have DF := Lib.hid dF
  have DE := Lib.hid dE
  have RM := Lib.hid rM
  have RF := Lib.hid rF
  have RE := Lib.hid rE
  have HOK := Lib.hid hok
  have HSL : Hid (shFs (rs.map FR.x) = (decide (N ≤ 160) && (rs.map FR.x).all shF)) := Lib.hid (by unfold shFs; rw [List.length_map, HN.out])
  obtain ⟨Lm, hLm1⟩ : ∃ X, Em.length = X := ⟨_, rfl⟩
  obtain ⟨Lf, hLf1⟩ : ∃ X, Ef.length = X := ⟨_, rfl⟩
  obtain ⟨Le, hLe1⟩ : ∃ X, Ee.length = X := ⟨_, rfl⟩
  unfold EncPost at CM CF CE DM DF DE
  rw [hLm1] at CM DM
  rw [hLf1] at CF DF
  rw [hLe1] at CE DE
  have EM := Lib.hid hLm1
  have EF := Lib.hid hLf1
  have EE := Lib.hid hLe1
  have HN200 : Hid (N ≤ 170) := Lib.hid h1.1
  clear h1 hok hoks hLb hLi hL2 hLm hLe rM rE rF cM cF cE dM dF dE hEm hEf hEe lm lf le hLm1 hLf1 hLe1
  have HOW := Lib.hid (HO0.out)
  go_upto_region 5 with fail
  have HOD := Lib.hid ((Only.refl Nil w2).drew)
  have kd1 := K1.out w2.drew (HO2.out.thenNil HOD.out)
  have kd2 := K2.out w2.drew (HO2.out.thenNil HOD.out)
  go_cut [7, 8, 9] (fun va vb vc wd => (∃ Aa c1, va = .slice Aa Lm c1 ∧ Bs wd wd.heap.size Aa Em) ∧ (∃ Ab c2, vb = .slice Ab Lf c2 ∧ Bs wd wd.heap.size Ab Ef) ∧ (∃ Ac c3, vc = .slice Ac Le c3 ∧ Bs wd wd.heap.size Ac Ee) ∧ Only Nil w2 wd)
  case first =>
    go_region_held3 (fun w' => (∀ i, w'.cell? ⟨gm, i, none⟩ = #[Value.int .i64 m0, .int .i64 m1, .int .i64 m2, .int .i64 m3, .int .i64 m4, .int .i64 m5, .int .i64 m6, .int .i64 m7, .slice Am md.length cm][i]?) ∧ (∀ i, w'.cell? ⟨ge, i, none⟩ = #[Value.int .i64 e0, .int .i64 e1, .int .i64 e2, .int .i64 e3, .int .i64 e4, .int .i64 e5, .int .i64 e6, .slice Ae ed.length ce][i]?)) (first | with_reducible assumption | exact ⟨kd1, kd2⟩ | go_keep)
      (first
        | (go_simp; go_at_call 26; refine (CM.out _ ((HO0.out.thenNil HO2.out).thenNil HOD.out)).mono ?_; rintro x w3 ⟨A3, c3, rfl, _, hown3, hO3⟩; have hb3 := (Bs.of_own (EM.out ▸ hown3)).1; have hP3 := HOD.out.thenNil hO3; have hs3 := And.intro (K1.out w3 (HO2.out.thenNil hP3)) (K2.out w3 (HO2.out.thenNil hP3)))
        | (go_simp; go_at_call 22; refine (CF.out _ ((HO0.out.thenNil HO2.out).thenNil hP3)).mono ?_; rintro x w4 ⟨A4, c4, rfl, _, hown4, hO4⟩; have hb4 := (Bs.of_own (EF.out ▸ hown4)).1; have hP4 := hP3.thenNil hO4; have hs4 := And.intro (K1.out w4 (HO2.out.thenNil hP4)) (K2.out w4 (HO2.out.thenNil hP4)))
        | (go_simp; go_at_call 43; refine (CE.out _ ((HO0.out.thenNil HO2.out).thenNil hP4)).mono ?_; rintro x w5 ⟨A5, c5, rfl, _, hown5, hO5⟩; have hb5 := (Bs.of_own (EE.out ▸ hown5)).1; have hP5 := hP4.thenNil hO5; have hs5 := And.intro (K1.out w5 (HO2.out.thenNil hP5)) (K2.out w5 (HO2.out.thenNil hP5)))
        | fail)
    all_goals
      have HF : Hid ((∃ Aa c1, Value.slice A3 Lm c3 = .slice Aa Lm c1 ∧ Bs w5 w5.heap.size Aa Em) ∧ (∃ Ab c2, Value.slice A4 Lf c4 = .slice Ab Lf c2 ∧ Bs w5 w5.heap.size Ab Ef) ∧ (∃ Ac c3, Value.slice A5 Le c5 = .slice Ac Le c3 ∧ Bs w5 w5.heap.size Ac Ee) ∧ Only Nil w2 w5) := Lib.hid (by
        have h45 := hO4.thenNil hO5
        exact ⟨⟨A3, c3, rfl, (hb3.onlyNil h45 (Nat.le_refl _)).up h45.size⟩, ⟨A4, c4, rfl, (hb4.onlyNil hO5 (Nat.le_refl _)).up hO5.size⟩, ⟨A5, c5, rfl, hb5⟩, hP5⟩)
      clear hb3 hb4 hb5 hP3 hP4 hP5 hs3 hs4 hs5 hO3 hO4 hO5 hown3 hown4 hown5
      go_wp2_with fail
      go_meet
      case rel => exact HF.out
  case rest =>
  obtain ⟨⟨Aa, c1, rfl, hba⟩, ⟨Ab, c2, rfl, hbb⟩, ⟨Ac, c3, rfl, hbc⟩, hOc⟩ := hcut
  have BA : Hid (∀ u, Only Nil wc u → Bs u u.heap.size Aa Em) := Lib.hid (fun u hu => (hba.onlyNil hu (Nat.le_refl _)).up hu.size)
  have BB : Hid (∀ u, Only Nil wc u → Bs u u.heap.size Ab Ef) := Lib.hid (fun u hu => (hbb.onlyNil hu (Nat.le_refl _)).up hu.size)
  have BC : Hid (∀ u, Only Nil wc u → Bs u u.heap.size Ac Ee) := Lib.hid (fun u hu => (hbc.onlyNil hu (Nat.le_refl _)).up hu.size)
  have OC := Lib.hid (HO2.out.thenNil hOc)
  have OW := Lib.hid (HO0.out.thenNil OC.out)
  clear hba hbb hbc hOc k1 k2 kd1 kd2 HOD
  have SMM : Hid (∀ (u : World) (A6 : Option Addr) (c6 : Nat), Only Nil wc u → Bs u u.heap.size A6 Em → Calls Try.prog 44 #[.slice Aa Lm c1, .slice A6 Lm c6] u fun e w' => e = .returned (.bool true) ∧ w' = u) := Lib.hid (fun u A6 c6 hu hb => by
    have := same_bytes Aa A6 c1 c6 Em Em u (BA.out u hu) hb
    rwa [EM.out, beq_self_eq_true] at this)
  have SFF : Hid (∀ (u : World) (A6 : Option Addr) (c6 : Nat), Only Nil wc u → Bs u u.heap.size A6 Ef → Calls Try.prog 44 #[.slice Ab Lf c2, .slice A6 Lf c6] u fun e w' => e = .returned (.bool true) ∧ w' = u) := Lib.hid (fun u A6 c6 hu hb => by
    have := same_bytes Ab A6 c2 c6 Ef Ef u (BB.out u hu) hb
    rwa [EF.out, beq_self_eq_true] at this)
  have SEE : Hid (∀ (u : World) (A6 : Option Addr) (c6 : Nat), Only Nil wc u → Bs u u.heap.size A6 Ee → Calls Try.prog 44 #[.slice Ac Le c3, .slice A6 Le c6] u fun e w' => e = .returned (.bool true) ∧ w' = u) := Lib.hid (fun u A6 c6 hu hb => by
    have := same_bytes Ac A6 c3 c6 Ee Ee u (BC.out u hu) hb
    rwa [EE.out, beq_self_eq_true] at this)
  have k1 := K1.out wc OC.out
  go_wp2_with fail
  with_reducible refine (DM.out _ OW.out).mono ?_
  rintro x w6 ⟨A6, c6, rfl, _, hown6, hO6⟩
  have hb6 := (Bs.of_own (EM.out ▸ hown6)).1
  have P6 := Lib.hid hO6
  have hsame := SMM.out w6 A6 c6 P6.out hb6
  have HS := Lib.hid hsame
  clear hown6 hO6 hb6 hsame k1
  go_wp2_with fail
  with_reducible refine HS.out.mono ?_
  clear HS
  rintro x w7 ⟨rfl, rfl⟩
  go_wp2_with fail
  with_reducible refine (DF.out _ (OW.out.thenNil P6.out)).mono ?_
  rintro x w8 ⟨A8, c8, rfl, _, hown8, hO8⟩
  have hb8 := (Bs.of_own (EF.out ▸ hown8)).1
  have P8 := Lib.hid (P6.out.thenNil hO8)
  have hsame := SFF.out w8 A8 c8 P8.out hb8
  have HS := Lib.hid hsame
  clear hown8 hO8 hb8 hsame
  go_wp2_with fail
  with_reducible refine HS.out.mono ?_
  clear HS
  rintro x w9 ⟨rfl, rfl⟩
  have k2 := K2.out w9 (OC.out.thenNil P8.out)
  go_wp2_with fail
  with_reducible refine (DE.out _ (OW.out.thenNil P8.out)).mono ?_
  rintro x w10 ⟨A10, c10, rfl, _, hown10, hO10⟩
  have hb10 := (Bs.of_own (EE.out ▸ hown10)).1
  have P10 := Lib.hid (P8.out.thenNil hO10)
  have hsame := SEE.out w10 A10 c10 P10.out hb10
  have HS := Lib.hid hsame
  clear hown10 hO10 hb10 hsame k2
  go_wp2_with fail
  with_reducible refine HS.out.mono ?_
  clear HS
  rintro x w11 ⟨rfl, rfl⟩
  clear SMM SFF SEE DM DF DE CM CF CE
  go_wp2_with fail
  go_loopw [10, 11] (fun v i wr => ∃ (k : Nat) (b : Bool), k ≤ N ∧ i = .int .i64 k ∧ v = .bool b ∧ b = (decide (N ≤ 160) && ((rs.map FR.x).take k).all shF) ∧ Only Nil wc wr) (fun _ i _ => N - (intOf i).toNat)
  case atStart => exact ⟨0, decide ((N : Int) ≤ 160), Nat.zero_le _, rfl, rfl, by simp only [List.take_zero, List.all_nil, Bool.and_true]; rw [decide_eq_decide]; omega, P10.out⟩
  case round =>
    obtain ⟨k, b, hk, rfl, rfl, hbk, hO⟩ := hrel
    have HBK := Lib.hid hbk
    have HO := Lib.hid hO
    clear hbk hO
    by_cases hlt : k < N
    · obtain ⟨q, hq⟩ : ∃ q, rs[k]? = some q := ⟨rs[k]'(by rw [HN.out]; exact hlt), List.getElem?_eq_getElem _⟩
      have hmx : (rs.map FR.x)[k]? = some q.x := by rw [List.getElem?_map, hq]; rfl
      have hst := shFs_step hmx (decide (N ≤ 160))
      rw [← HBK.out] at hst
      rw [show shF q.x = (decide (q.x.data.length ≤ 1536) && decide (q.x.msg.data.length ≤ 1536)) from rfl] at hst
      obtain ⟨bk, off, hAe, _, hc⟩ := (HA.out.next (OW.out.thenNil HO.out)).at_ hq
      have e13 : wr.cell? ⟨bk, off + (k * 15 + 13), none⟩ = some (.slice q.Am q.x.msg.data.length q.cm) := hc 13 _ rfl
      have e14 : wr.cell? ⟨bk, off + (k * 15 + 14), none⟩ = some (.slice q.Ad q.x.data.length q.cd) := hc 14 _ rfl
      rw [← Nat.add_assoc] at e13 e14
      obtain ⟨Y, hY⟩ : ∃ Y, q.x.data.length = Y := ⟨_, rfl⟩
      obtain ⟨X, hX⟩ : ∃ X, q.x.msg.data.length = X := ⟨_, rfl⟩
      rw [hY] at e14 hst
      rw [hX] at e13 hst
      subst hAe
      have hki : (k : Int) < N := by omega
      clear hc hq hmx hY hX hlt
      have HST := Lib.hid hst
      clear hst
      cases b
      · go_wp2_with fail
        go_roundw
        case rel => exact ⟨k + 1, false, by omega, by go_num, rfl, by have := HST.out; rw [Bool.false_and] at this; exact this.symm, HO.out⟩
        case measure => simp [intOf]; omega
      by_cases hy : Y ≤ 1536
      · have hyi : (Y : Int) ≤ 1536 := by omega
        go_wp2_with fail
        go_roundw
        case rel => exact ⟨k + 1, decide ((X : Int) ≤ 1536), by omega, by go_num, rfl, by have := HST.out; rw [Bool.true_and, decide_eq_true hy, Bool.true_and] at this; rw [this, decide_eq_decide]; omega, HO.out⟩
        case measure => simp [intOf]; omega
      · have hyi : ¬ (Y : Int) ≤ 1536 := by omega
        go_wp2_with fail
        go_roundw
        case rel => exact ⟨k + 1, false, by omega, by go_num, rfl, by have := HST.out; rw [Bool.true_and, decide_eq_false hy, Bool.false_and] at this; exact this.symm, HO.out⟩
        case measure => simp [intOf]; omega
    have hkN : k = N := by omega
    have hki : ¬ (k : Int) < N := by omega
    have hbF : b = shFs (rs.map FR.x) := by rw [HBK.out, HSL.out, hkN, List.take_of_length_le (by rw [List.length_map, HN.out]; exact Nat.le_refl _)]
    -- what is read from the bytes
    obtain ⟨⟨mn0, mn1, mn2, mn3, mn4, mn5, mn6, mn7, mdn⟩, em, hrm, hcm⟩ : ∃ x em, readMs Em = (x, em) ∧ ((em = 0 ∧ md.length ≤ 1536 ∧ sameM x ⟨m0, m1, m2, m3, m4, m5, m6, m7, md⟩ = true) ∨ (em = 4 ∧ ¬ md.length ≤ 1536)) := by
      rw [RM.out]
      by_cases h : md.length ≤ 1536
      · exact ⟨_, _, if_pos h, .inl ⟨rfl, h, sameM_iff.2 rfl⟩⟩
      · exact ⟨_, _, if_neg h, .inr ⟨rfl, h⟩⟩
    obtain ⟨⟨en0, en1, en2, en3, en4, en5, en6, edn⟩, ee, hre, hce⟩ : ∃ x ee, readE Ee = (x, ee) ∧ ((ee = 0 ∧ ed.length ≤ 1536 ∧ sameE x ⟨e0, e1, e2, e3, e4, e5, e6, ed⟩ = true) ∨ (ee = 4 ∧ ¬ ed.length ≤ 1536)) := by
      rw [RE.out]
      by_cases h : ed.length ≤ 1536
      · exact ⟨_, _, if_pos h, .inl ⟨rfl, h, sameE_iff.2 rfl⟩⟩
      · exact ⟨_, _, if_neg h, .inr ⟨rfl, h⟩⟩
    obtain ⟨fs, ef, hrf, hcf, hfl160⟩ : ∃ x ef, readFs Ef = (x, ef) ∧ ((ef = 0 ∧ b = true ∧ sameFs x (rs.map FR.x) = true) ∨ (ef = 4 ∧ b = false)) ∧ x.length ≤ 170 := by
      rw [RF.out, ← hbF]
      cases b
      · exact ⟨_, _, if_neg (by simp), .inr ⟨rfl, rfl⟩, by simp⟩
      · exact ⟨_, _, if_pos rfl, .inl ⟨rfl, rfl, sameFs_iff.2 rfl⟩, by rw [List.length_map, HN.out]; exact HN200.out⟩
    have hrdm := readMsg_any Aa c1 Em wr (BA.out wr HO.out) HLM.out
    rw [EM.out, hrm] at hrdm
    have hrdf := fun u (hu : Only Nil wc u) => readEffects_any Ab c2 Ef u (BB.out u hu) HLF.out
    rw [EF.out, hrf] at hrdf
    have hrde := fun u (hu : Only Nil wc u) => readEntry_any Ac c3 Ee u (BC.out u hu) HLE.out
    rw [EE.out, hre] at hrde
    have HRDM := Lib.hid hrdm
    have HRDF := Lib.hid hrdf
    have HRDE := Lib.hid hrde
    have HCMM := Lib.hid hcm
    have HCE := Lib.hid hce
    have HCF := Lib.hid hcf
    have HF160 := Lib.hid hfl160
    clear hbF hrm hcm hre hce hrf hcf hfl160 hrdm hrdf hrde hkN hlt
    go_wp2_with fail
    with_reducible refine HRDM.out.mono ?_
    clear HRDM
    rintro x w12 ⟨An, cn, rfl, _, hon, hO12⟩
    obtain ⟨g3, hg3⟩ : ∃ g, g = w12.heap.size := ⟨_, rfl⟩
    obtain ⟨w13, hw13⟩ : ∃ w13, w13 = w12.alloc (.cells #[Value.int .i64 mn0, .int .i64 mn1, .int .i64 mn2, .int .i64 mn3, .int .i64 mn4, .int .i64 mn5, .int .i64 mn6, .int .i64 mn7, .slice An mdn.length cn] 26) := ⟨_, rfl⟩
    have hO13 : Only Nil w12 w13 := by rw [hw13]; exact (Only.refl _ _).alloc _
    have B3 : Hid (Blk w13 g3 26 #[Value.int .i64 mn0, .int .i64 mn1, .int .i64 mn2, .int .i64 mn3, .int .i64 mn4, .int .i64 mn5, .int .i64 mn6, .int .i64 mn7, .slice An mdn.length cn]) := Lib.hid (by rw [hw13, hg3]; exact Blk.new _ _ _)
    have OMN := Lib.hid (own_onlyNil hon hO13)
    have HO13 := Lib.hid ((HO.out.thenNil hO12).thenNil hO13)
    have HW13 := Lib.hid hw13
    have HG3 := Lib.hid hg3
    clear hon hO12 hO13 hw13 hg3
    unfold mcells
    dsimp only
    go_upto_region 14 with fail
    rw [← HW13.out, ← HG3.out]
    clear HW13 HG3
    go_wp2_with fail
    with_reducible refine (HRDF.out _ HO13.out).mono ?_
    clear HRDF
    rintro x w14 ⟨Af, cf, qs, hmap, rfl, _, hfl, hO14⟩
    dsimp only at hmap
    have hql : qs.length ≤ 170 := by have := congrArg List.length hmap; rw [List.length_map] at this; have := HF160.out; omega
    obtain ⟨NF, hNF⟩ : ∃ n, qs.length = n := ⟨_, rfl⟩
    rw [hNF]
    have HNF := Lib.hid hNF
    have HQL := Lib.hid hql
    have HMAP := Lib.hid hmap
    have FLA := Lib.hid hfl
    have B3 := Lib.hid (B3.out.onlyNil hO14)
    have OMN := Lib.hid (own_onlyNil OMN.out hO14)
    have HO14 := Lib.hid (HO13.out.thenNil hO14)
    clear hmap hfl hO14 hql hNF
    go_wp2_with fail
    with_reducible refine (HRDE.out _ HO14.out).mono ?_
    clear HRDE
    rintro x w15 ⟨Ax, cx, rfl, _, hoe, hO15⟩
    obtain ⟨g4, hg4⟩ : ∃ g, g = w15.heap.size := ⟨_, rfl⟩
    obtain ⟨w16, hw16⟩ : ∃ w16, w16 = w15.alloc (.cells #[Value.int .i64 en0, .int .i64 en1, .int .i64 en2, .int .i64 en3, .int .i64 en4, .int .i64 en5, .int .i64 en6, .slice Ax edn.length cx] 35) := ⟨_, rfl⟩
    have hO16 : Only Nil w15 w16 := by rw [hw16]; exact (Only.refl _ _).alloc _
    have hO56 := hO15.thenNil hO16
    have B4 : Hid (Blk w16 g4 35 #[Value.int .i64 en0, .int .i64 en1, .int .i64 en2, .int .i64 en3, .int .i64 en4, .int .i64 en5, .int .i64 en6, .slice Ax edn.length cx]) := Lib.hid (by rw [hw16, hg4]; exact Blk.new _ _ _)
    have OEN := Lib.hid (own_onlyNil hoe hO16)
    have B3 := Lib.hid (B3.out.onlyNil hO56)
    have OMN := Lib.hid (own_onlyNil OMN.out hO56)
    have FLA := Lib.hid (FLA.out.onlyNil hO56)
    have HO16 := Lib.hid (HO14.out.thenNil hO56)
    have HW16 := Lib.hid hw16
    have HG4 := Lib.hid hg4
    clear hoe hO15 hO16 hO56 hw16 hg4
    unfold ecl ER.cells
    dsimp only
    go_upto_region 16 with fail
    rw [← HW16.out, ← HG4.out]
    clear HW16 HG4
    have K3 : Hid (∀ u, Only Nil w16 u → ∀ i, u.cell? ⟨g3, i, none⟩ = #[Value.int .i64 mn0, .int .i64 mn1, .int .i64 mn2, .int .i64 mn3, .int .i64 mn4, .int .i64 mn5, .int .i64 mn6, .int .i64 mn7, .slice An mdn.length cn][i]?) := Lib.hid (fun u hu i => (B3.out.onlyNil hu).cell i)
    have K4 : Hid (∀ u, Only Nil w16 u → ∀ i, u.cell? ⟨g4, i, none⟩ = #[Value.int .i64 en0, .int .i64 en1, .int .i64 en2, .int .i64 en3, .int .i64 en4, .int .i64 en5, .int .i64 en6, .slice Ax edn.length cx][i]?) := Lib.hid (fun u hu i => (B4.out.onlyNil hu).cell i)
    have HOF := Lib.hid (OW.out.thenNil HO16.out)
    have HOG := Lib.hid (OC.out.thenNil HO16.out)
    have K1 : Hid (∀ u, Only Nil w16 u → ∀ i, u.cell? ⟨gm, i, none⟩ = #[Value.int .i64 m0, .int .i64 m1, .int .i64 m2, .int .i64 m3, .int .i64 m4, .int .i64 m5, .int .i64 m6, .int .i64 m7, .slice Am md.length cm][i]?) := Lib.hid (fun u hu => K1.out u (HOG.out.thenNil hu))
    have K2 : Hid (∀ u, Only Nil w16 u → ∀ i, u.cell? ⟨ge, i, none⟩ = #[Value.int .i64 e0, .int .i64 e1, .int .i64 e2, .int .i64 e3, .int .i64 e4, .int .i64 e5, .int .i64 e6, .slice Ae ed.length ce][i]?) := Lib.hid (fun u hu => K2.out u (HOG.out.thenNil hu))
    have SMA := Lib.hid (fun (u : World) (hu : Only Nil w16 u) => same_msg An cn ⟨mn0, mn1, mn2, mn3, mn4, mn5, mn6, mn7, mdn⟩ Am cm ⟨m0, m1, m2, m3, m4, m5, m6, m7, md⟩ u (Bs.of_own (own_onlyNil OMN.out hu)).1 ((HMO.out.data.onlyNil (HOF.out.thenNil hu) (Nat.le_refl _)).up (HOF.out.thenNil hu).size))
    have SEA := Lib.hid (fun (u : World) (hu : Only Nil w16 u) => same_entry ⟨Ax, cx, ⟨en0, en1, en2, en3, en4, en5, en6, edn⟩⟩ ⟨Ae, ce, ⟨e0, e1, e2, e3, e4, e5, e6, ed⟩⟩ u (Bs.of_own (own_onlyNil OEN.out hu)).1 ((HRO.out.onlyNil (HOF.out.thenNil hu) (Nat.le_refl _)).up (HOF.out.thenNil hu).size).data)
    have SFA := Lib.hid (fun (u : World) (hu : Only Nil w16 u) => Ref.same_effects Af A cf ca qs rs u ((FLA.out.onlyNil hu).fs) (HA.out.next (HOF.out.thenNil hu)) (by have := HQL.out; omega))
    rw [HMAP.out, HNF.out, HN.out] at SFA
    dsimp only at SEA
    have k1 := K1.out w16 (Only.refl _ _)
    have k2 := K2.out w16 (Only.refl _ _)
    have k3 := K3.out w16 (Only.refl _ _)
    have k4 := K4.out w16 (Only.refl _ _)
    have HZ : Hid (Only Nil w16 w16) := Lib.hid (Only.refl _ _)
    clear B3 B4 OMN OEN FLA HMAP HNF HQL HF160 HO16 HO14 HO13 BA BB BC RM RF RE EM EF EE HLM HLF HLE HOK HSL HN200 HBK HO HMO HRO HA HFA HFA1 HN HO0 HGM HGE HW0 HO1 HO2 HOW OC OW P6 P8 P10 HOG
    rcases HCMM.out with ⟨hem, hmd, hsm⟩ | ⟨hem, hmd⟩
    · subst hem
      rcases HCF.out with ⟨hef, hsb, hsf⟩ | ⟨hef, hsb⟩
      · subst hef hsb
        rcases HCE.out with ⟨hee, hed, hse⟩ | ⟨hee, hed⟩
        · subst hee
          have hmi : (md.length : Int) ≤ 1536 := by omega
          have hei : (ed.length : Int) ≤ 1536 := by omega
          have SM := SMA
          rw [hsm] at SM
          unfold mcells at SM
          dsimp only at SM
          have SF := SFA
          rw [hsf] at SF
          have SE := SEA
          rw [hse] at SE
          unfold ER.cells at SE
          dsimp only at SE
          clear SMA SEA SFA HCMM HCF HCE hsm hse hsf hmd hed
          go_wp2_with fail
          with_reducible refine (SM.out _ HZ.out).mono ?_
          clear k1 k2 k3 k4 SM
          rintro x w17 ⟨rfl, hO17⟩
          have HO17 := Lib.hid (HZ.out.thenNil hO17)
          clear hO17
          have k1 := K1.out w17 HO17.out
          have k2 := K2.out w17 HO17.out
          have k3 := K3.out w17 HO17.out
          have k4 := K4.out w17 HO17.out
          go_wp2_with fail
          with_reducible refine (SF.out _ HO17.out).mono ?_
          clear k1 k2 k3 k4 SF
          rintro x w18 ⟨rfl, hO18⟩
          have HO18 := Lib.hid (HO17.out.thenNil hO18)
          clear hO18
          have k1 := K1.out w18 HO18.out
          have k2 := K2.out w18 HO18.out
          have k3 := K3.out w18 HO18.out
          have k4 := K4.out w18 HO18.out
          go_wp2_with fail
          with_reducible refine (SE.out _ HO18.out).mono ?_
          clear k1 k2 k3 k4 SE
          rintro x w19 ⟨rfl, hO19⟩
          have HO19 := Lib.hid (HO18.out.thenNil hO19)
          clear hO19
          have k1 := K1.out w19 HO19.out
          have k2 := K2.out w19 HO19.out
          have k3 := K3.out w19 HO19.out
          have k4 := K4.out w19 HO19.out
          go_wp2_with fail
          refine bodyPost_ret (v := .bool true) (by first | (simp [results, Try.results6, go_sem]; done) | (simp [results, Try.results6, go_sem, hmi, hei]; done) | (simp [results, Try.results6, go_sem]; omega)) rfl ?_
          exact ⟨rfl, HOF.out.thenNil HO19.out⟩
        · subst hee
          have hmi : (md.length : Int) ≤ 1536 := by omega
          have hei : ¬ (ed.length : Int) ≤ 1536 := by omega
          have SM := SMA
          rw [hsm] at SM
          unfold mcells at SM
          dsimp only at SM
          have SF := SFA
          rw [hsf] at SF
          clear SMA SEA SFA HCMM HCF HCE hsm hsf hmd hed
          go_wp2_with fail
          with_reducible refine (SM.out _ HZ.out).mono ?_
          clear k1 k2 k3 k4 SM
          rintro x w17 ⟨rfl, hO17⟩
          have HO17 := Lib.hid (HZ.out.thenNil hO17)
          clear hO17
          have k1 := K1.out w17 HO17.out
          have k2 := K2.out w17 HO17.out
          have k3 := K3.out w17 HO17.out
          have k4 := K4.out w17 HO17.out
          go_wp2_with fail
          with_reducible refine (SF.out _ HO17.out).mono ?_
          clear k1 k2 k3 k4 SF
          rintro x w18 ⟨rfl, hO18⟩
          have HO18 := Lib.hid (HO17.out.thenNil hO18)
          clear hO18
          have k1 := K1.out w18 HO18.out
          have k2 := K2.out w18 HO18.out
          have k3 := K3.out w18 HO18.out
          have k4 := K4.out w18 HO18.out
          go_wp2_with fail
          refine bodyPost_ret (v := .bool true) (by first | (simp [results, Try.results6, go_sem]; done) | (simp [results, Try.results6, go_sem, hmi, hei]; done) | (simp [results, Try.results6, go_sem]; omega)) rfl ?_
          exact ⟨rfl, HOF.out.thenNil HO18.out⟩
      · subst hef hsb
        rcases HCE.out with ⟨hee, hed, hse⟩ | ⟨hee, hed⟩
        · subst hee
          have hmi : (md.length : Int) ≤ 1536 := by omega
          have hei : (ed.length : Int) ≤ 1536 := by omega
          have SM := SMA
          rw [hsm] at SM
          unfold mcells at SM
          dsimp only at SM
          have SE := SEA
          rw [hse] at SE
          unfold ER.cells at SE
          dsimp only at SE
          clear SMA SEA SFA HCMM HCF HCE hsm hse hmd hed
          go_wp2_with fail
          with_reducible refine (SM.out _ HZ.out).mono ?_
          clear k1 k2 k3 k4 SM
          rintro x w17 ⟨rfl, hO17⟩
          have HO17 := Lib.hid (HZ.out.thenNil hO17)
          clear hO17
          have k1 := K1.out w17 HO17.out
          have k2 := K2.out w17 HO17.out
          have k3 := K3.out w17 HO17.out
          have k4 := K4.out w17 HO17.out
          go_wp2_with fail
          with_reducible refine (SE.out _ HO17.out).mono ?_
          clear k1 k2 k3 k4 SE
          rintro x w18 ⟨rfl, hO18⟩
          have HO18 := Lib.hid (HO17.out.thenNil hO18)
          clear hO18
          have k1 := K1.out w18 HO18.out
          have k2 := K2.out w18 HO18.out
          have k3 := K3.out w18 HO18.out
          have k4 := K4.out w18 HO18.out
          go_wp2_with fail
          refine bodyPost_ret (v := .bool true) (by first | (simp [results, Try.results6, go_sem]; done) | (simp [results, Try.results6, go_sem, hmi, hei]; done) | (simp [results, Try.results6, go_sem]; omega)) rfl ?_
          exact ⟨rfl, HOF.out.thenNil HO18.out⟩
        · subst hee
          have hmi : (md.length : Int) ≤ 1536 := by omega
          have hei : ¬ (ed.length : Int) ≤ 1536 := by omega
          have SM := SMA
          rw [hsm] at SM
          unfold mcells at SM
          dsimp only at SM
          clear SMA SEA SFA HCMM HCF HCE hsm hmd hed
          go_wp2_with fail
          with_reducible refine (SM.out _ HZ.out).mono ?_
          clear k1 k2 k3 k4 SM
          rintro x w17 ⟨rfl, hO17⟩
          have HO17 := Lib.hid (HZ.out.thenNil hO17)
          clear hO17
          have k1 := K1.out w17 HO17.out
          have k2 := K2.out w17 HO17.out
          have k3 := K3.out w17 HO17.out
          have k4 := K4.out w17 HO17.out
          go_wp2_with fail
          refine bodyPost_ret (v := .bool true) (by first | (simp [results, Try.results6, go_sem]; done) | (simp [results, Try.results6, go_sem, hmi, hei]; done) | (simp [results, Try.results6, go_sem]; omega)) rfl ?_
          exact ⟨rfl, HOF.out.thenNil HO17.out⟩
    · subst hem
      rcases HCF.out with ⟨hef, hsb, hsf⟩ | ⟨hef, hsb⟩
      · subst hef hsb
        rcases HCE.out with ⟨hee, hed, hse⟩ | ⟨hee, hed⟩
        · subst hee
          have hmi : ¬ (md.length : Int) ≤ 1536 := by omega
          have hei : (ed.length : Int) ≤ 1536 := by omega
          have SF := SFA
          rw [hsf] at SF
          have SE := SEA
          rw [hse] at SE
          unfold ER.cells at SE
          dsimp only at SE
          clear SMA SEA SFA HCMM HCF HCE hse hsf hmd hed
          go_wp2_with fail
          with_reducible refine (SF.out _ HZ.out).mono ?_
          clear k1 k2 k3 k4 SF
          rintro x w17 ⟨rfl, hO17⟩
          have HO17 := Lib.hid (HZ.out.thenNil hO17)
          clear hO17
          have k1 := K1.out w17 HO17.out
          have k2 := K2.out w17 HO17.out
          have k3 := K3.out w17 HO17.out
          have k4 := K4.out w17 HO17.out
          go_wp2_with fail
          with_reducible refine (SE.out _ HO17.out).mono ?_
          clear k1 k2 k3 k4 SE
          rintro x w18 ⟨rfl, hO18⟩
          have HO18 := Lib.hid (HO17.out.thenNil hO18)
          clear hO18
          have k1 := K1.out w18 HO18.out
          have k2 := K2.out w18 HO18.out
          have k3 := K3.out w18 HO18.out
          have k4 := K4.out w18 HO18.out
          go_wp2_with fail
          refine bodyPost_ret (v := .bool true) (by first | (simp [results, Try.results6, go_sem]; done) | (simp [results, Try.results6, go_sem, hmi, hei]; done) | (simp [results, Try.results6, go_sem]; omega)) rfl ?_
          exact ⟨rfl, HOF.out.thenNil HO18.out⟩
        · subst hee
          have hmi : ¬ (md.length : Int) ≤ 1536 := by omega
          have hei : ¬ (ed.length : Int) ≤ 1536 := by omega
          have SF := SFA
          rw [hsf] at SF
          clear SMA SEA SFA HCMM HCF HCE hsf hmd hed
          go_wp2_with fail
          with_reducible refine (SF.out _ HZ.out).mono ?_
          clear k1 k2 k3 k4 SF
          rintro x w17 ⟨rfl, hO17⟩
          have HO17 := Lib.hid (HZ.out.thenNil hO17)
          clear hO17
          have k1 := K1.out w17 HO17.out
          have k2 := K2.out w17 HO17.out
          have k3 := K3.out w17 HO17.out
          have k4 := K4.out w17 HO17.out
          go_wp2_with fail
          refine bodyPost_ret (v := .bool true) (by first | (simp [results, Try.results6, go_sem]; done) | (simp [results, Try.results6, go_sem, hmi, hei]; done) | (simp [results, Try.results6, go_sem]; omega)) rfl ?_
          exact ⟨rfl, HOF.out.thenNil HO17.out⟩
      · subst hef hsb
        rcases HCE.out with ⟨hee, hed, hse⟩ | ⟨hee, hed⟩
        · subst hee
          have hmi : ¬ (md.length : Int) ≤ 1536 := by omega
          have hei : (ed.length : Int) ≤ 1536 := by omega
          have SE := SEA
          rw [hse] at SE
          unfold ER.cells at SE
          dsimp only at SE
          clear SMA SEA SFA HCMM HCF HCE hse hmd hed
          go_wp2_with fail
          with_reducible refine (SE.out _ HZ.out).mono ?_
          clear k1 k2 k3 k4 SE
          rintro x w17 ⟨rfl, hO17⟩
          have HO17 := Lib.hid (HZ.out.thenNil hO17)
          clear hO17
          have k1 := K1.out w17 HO17.out
          have k2 := K2.out w17 HO17.out
          have k3 := K3.out w17 HO17.out
          have k4 := K4.out w17 HO17.out
          go_wp2_with fail
          refine bodyPost_ret (v := .bool true) (by first | (simp [results, Try.results6, go_sem]; done) | (simp [results, Try.results6, go_sem, hmi, hei]; done) | (simp [results, Try.results6, go_sem]; omega)) rfl ?_
          exact ⟨rfl, HOF.out.thenNil HO17.out⟩
        · subst hee
          have hmi : ¬ (md.length : Int) ≤ 1536 := by omega
          have hei : ¬ (ed.length : Int) ≤ 1536 := by omega
          clear SMA SEA SFA HCMM HCF HCE hmd hed
          go_wp2_with fail
          refine bodyPost_ret (v := .bool true) (by first | (simp [results, Try.results6, go_sem]; done) | (simp [results, Try.results6, go_sem, hmi, hei]; done) | (simp [results, Try.results6, go_sem]; omega)) rfl ?_
          exact ⟨rfl, HOF.out.thenNil HZ.out⟩

set_option maxRecDepth 100000 in
theorem from_args {H : Type} {enc : TypeId × Value → H} (W : World) (base : Nat) (args : Array Value) (ds : List (DataW H)) (ps : List MemPlace)
    (hval0 : ∀ (j : Nat) t v, Try.f6.params[j]? = some t → args[j]? = some v → Value.okWide Try.prog W .any base t v)
    (hA : DataW.TrodAll enc Try.prog W 0 (fun _ => true) true Try.f6.params.toList args.toList ds ps) (_hlt : ∀ x ∈ ps, x.block < W.heap.size)
    (hsz : (DataW.weightsEach Try.prog Try.f6.params.toList ds).all (· ≤ reachBytes) = true) : Calls Try.prog 6 args W (LawPost W) := by
  have hval := hval0
  rw [Try.params6] at hA hval hsz
  obtain ⟨v0, vs0, d0, ds0, p0, q0, hargs, rfl, rfl, h0, r0⟩ := trodAll_cons hA
  obtain ⟨v1, vs1, d1, ds1, p1, q1, rfl, rfl, rfl, h1, r1⟩ := trodAll_cons r0
  obtain ⟨v2, vs2, d2, ds2, p2, q2, rfl, rfl, rfl, h2, r2⟩ := trodAll_cons r1
  obtain ⟨rfl, rfl, rfl⟩ := trodAll_nil r2
  obtain rfl : args = #[v0, v1, v2] := by cases args; simp_all
  obtain ⟨Am, cm, m, rfl, hm⟩ := open_msg (hval 0 _ v0 rfl rfl) h0
  obtain ⟨A, rs, ca, rfl, h1', h2', hE, hW⟩ := open_effects (R := reachBytes) (hval 1 _ v1 rfl rfl) h1 (fun n hn => of_decide_eq_true (List.all_eq_true.1 hsz n (DataW.weights_mem_each (j := 1) (t := 30) (d := d1) rfl rfl n hn)))
  obtain ⟨r, rfl, hr⟩ := open_entry (hval 2 _ v2 rfl rfl) h2
  exact walk Am cm m A ca rs r reachBytes W hm hE h1' h2' (by decide) hW hr

set_option maxRecDepth 100000 in
theorem over : Rows.wireMessagesRow.holds Try.pinned (OpenSpec.ofChange Rows.wireMessagesSpec) :=
  OpenClaim.holds_of_wide 6 Try.f6 rfl rfl rfl rfl rfl rfl rfl ⟨rfl, rfl, rfl, rfl, rfl⟩ rfl rfl rfl rfl rfl (by kernel_rfl) Try.func6 (by kernel_rfl)
    (of_decide_eq_true (by kernel_rfl)) (by unfold Func.isWrapper; first | (rw [if_pos (by decide +kernel)]; kernel_rfl) | (rw [if_neg (by decide +kernel)]; exact ⟨rfl, rfl⟩))
    (fun os started H enc _ => law_lifted (f := 6) (F := Try.f6) (s := Rows.wireMessagesSpec) os started H enc (by kernel_rfl) Try.func6 rfl rfl (by kernel_rfl) (by kernel_rfl)
      (fun ds hd => by match ds, hd with | [_, _, _], _ => rfl)
      (ChangeSpec.witness6 (enc := enc) (C := Try.checked) false ⟨#[], #[.agg #[.int .i64 0, .int .i64 0, .int .i64 0, .int .i64 0, .int .i64 0, .int .i64 0, .int .i64 0, .int .i64 0, .slice none 0 0], .slice none 0 0, .agg #[.int .i64 0, .int .i64 0, .int .i64 0, .int .i64 0, .int .i64 0, .int .i64 0, .int .i64 0, .slice none 0 0]], []⟩ 8 (by kernel_rfl) (by kernel_rfl) (by kernel_rfl) (by kernel_rfl))
      (fun W base args ds ps hv hA hlt hsz => from_args W base args ds ps hv hA hlt hsz))

/-- The statement. -/
theorem proved : Rows.WireMessagesSaid := over

end wireMessages
end Go.Proofs.Ytbhgaaendekghaa
