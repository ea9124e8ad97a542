/-
  The law ReplayAnswers: every answer ends one call, and it is that call's.
  No conditions.
-/
import Derived.Test.YtdejceojhkdjnaaRpA
import Derived.Test.YtdejceojhkdjnaaRpP2
import Derived.Laws.Externs
namespace Go.Proofs.Ytdejceojhkdjnaa
open Go.ChangeShapes Go.WideShapes Go.ChangeAt Go.RowKit Go.Deep

def cntT (cs : List CR) (i m : Nat) : Nat := (cs.take m).countP fun c => c.x.fin == (i : Int)
theorem cntT_le (cs : List CR) (i m : Nat) : cntT cs i m ≤ m := by
  unfold cntT
  have := List.countP_le_length (p := fun c : CR => c.x.fin == (i : Int)) (l := cs.take m)
  rw [List.length_take] at this
  omega
theorem cntT_succ {cs : List CR} {i m : Nat} {c : CR} (h : cs[m]? = some c) : cntT cs i (m + 1) = cntT cs i m + if c.x.fin = i then 1 else 0 := by
  obtain ⟨hlt, hg⟩ := List.getElem?_eq_some_iff.1 h
  unfold cntT
  rw [List.take_succ_eq_append_getElem hlt, hg, List.countP_append]
  by_cases h2 : c.x.fin = i <;> simp [h2]
theorem cntT_all {cs : List CR} {l : List En} (h : cs.map CR.x = callsP l l.length) (i : Nat) : cntT cs i cs.length = cntF l i l.length := by
  unfold cntT cntF
  rw [← h, List.countP_map, List.take_length]
  rfl
theorem crow_at {w : World} {base : Nat} {A : Option Addr} {c : Nat} {rs : List CR} (h : CRow w base A c rs) {k : Nat} {r : CR} (hk : rs[k]? = some r) :
    ∃ b off, A = some ⟨b, off, none⟩ ∧ b < w.heap.size ∧ ∀ j u, r.cells[j]? = some u → w.cell? ⟨b, off + (k * 11 + j), none⟩ = some u :=
  Rd.row CR.cells_len (Rd.of_own h.row) hk (by omega)

namespace replayAnswers
set_option maxRecDepth 100000 in
set_option maxHeartbeats 3000000 in
theorem walk (A : Option Addr) (ca : Nat) (rs : List ER) (w : World) (ha : Es w w.heap.size A rs) (hca : rs.length ≤ maxLen) :
    Calls Try.prog 5 #[.slice A rs.length ca] w (LawPost w) := by
  have hfa := fun w' (hO : Only Nil w w') => few_any A ca rs w' (ha.next hO) (by omega)
  have HA := Lib.hid ha
  obtain ⟨fa, hfa1⟩ : ∃ f, fewE rs = f := ⟨_, rfl⟩
  rw [hfa1] at hfa
  obtain ⟨N, hN⟩ : ∃ N, rs.length = N := ⟨_, rfl⟩
  rw [hN] at hfa hca ⊢
  have HFA := Lib.hid hfa
  have HFA1 := Lib.hid hfa1
  have HN := Lib.hid hN
  unfold maxLen at hca
  clear ha hfa hN hfa1
  go_enter Try.func5, Try.ntmps5
  go_wp2_with fail
  refine (awake_any _).mono ?_
  rintro x w1 ⟨rfl, hO1⟩
  have HO1 := Lib.hid hO1
  clear hO1
  go_wp2_with fail
  refine (HFA.out _ HO1.out).mono ?_
  rintro x w2 ⟨rfl, rfl⟩
  cases fa
  · go_wp2_with fail
    go_ret
    exact ⟨rfl, HO1.out⟩
  have h1 := fewE_of HFA1.out
  have hN40 : N ≤ 40 := by rw [← HN.out]; exact h1.2
  obtain ⟨l, hl⟩ : ∃ l, rs.map ER.x = l := ⟨_, rfl⟩
  have hlen : l.length = N := by rw [← hl, List.length_map, HN.out]
  obtain ⟨n, hn⟩ : ∃ n, (runP initS l).1 = n := ⟨_, rfl⟩
  obtain ⟨e, he⟩ : ∃ e, (runP initS l).2.1 = e := ⟨_, rfl⟩
  have hck : ∀ w', Only Nil w w' → Calls Try.prog 10 #[.slice A N ca] w' fun x w'' => x = .returned (.tuple #[.int .i64 n, .int .i64 e]) ∧ Only Nil w' w'' := fun w' hO => by
    have := check_any A ca rs w' (HA.out.next hO) (by rw [HN.out]; omega)
    unfold CheckPost at this
    rw [hl, hn, he, HN.out] at this
    exact this
  have hcl : ∀ w', Only Nil w w' → Calls Try.prog 17 #[.slice A N ca] w' fun x w'' => ∃ Ac cc M cs, x = .returned (.slice Ac M cc) ∧ cs.length = M ∧ cs.map CR.x = callsP l l.length ∧ CRow w'' w'.heap.size Ac cc cs ∧ Only Nil w' w'' := fun w' hO => by
    have := calls_any A ca rs w' (HA.out.next hO) (by rw [HN.out]; omega) (fun r hr => by have := h1.1 r hr; omega)
    unfold CallsPost at this
    rw [hl, HN.out] at this
    exact this.mono fun x w'' ⟨Ac, cc, cs, h2, h3, h4, _, h5⟩ => ⟨Ac, cc, cs.length, cs, h2, rfl, h3, h4, h5⟩
  have HCK := Lib.hid hck
  have HCA := Lib.hid hcl
  have HL := Lib.hid hl
  have HLEN := Lib.hid hlen
  have HE := Lib.hid he
  clear h1 hl hlen hn he hck hcl
  go_wp2_with fail
  refine (HCK.out _ HO1.out).mono ?_
  rintro x w3 ⟨rfl, hO3⟩
  have HO3 := Lib.hid (HO1.out.thenNil hO3)
  clear hO3
  by_cases h0 : e = 0
  rotate_left
  · have hb2 : (e != 0) = true := by simp [h0]
    clear h0
    go_wp2_with fail
    go_ret
    exact ⟨rfl, HO3.out⟩
  subst h0
  go_wp2_with fail
  refine (HCA.out _ HO3.out).mono ?_
  rintro x w5 ⟨Ac, cc, M, cs, rfl, hM, hmap, hrow, hO5⟩
  have HO5 := Lib.hid (HO3.out.thenNil hO5)
  have hM40 : M ≤ 40 := by
    have h3 : (cs.map CR.x).length = M := by rw [List.length_map, hM]
    have h4 := callsP_len l l.length
    rw [← hmap, h3, HLEN.out] at h4
    omega
  have HM := Lib.hid hM
  have HMAP := Lib.hid hmap
  have HROW := Lib.hid hrow
  have HE5 := Lib.hid (HA.out.next HO5.out)
  clear hO5 hM hmap hrow
  go_wp2_with fail
  go_loopw [6] (fun i wr => ∃ k : Nat, k ≤ N ∧ i = .int .i64 k ∧ Only Nil w5 wr) (fun i _ => N - (intOf i).toNat)
  case atStart => exact ⟨0, Nat.zero_le _, rfl, Only.refl _ _⟩
  case round =>
    obtain ⟨k, hk, rfl, hO⟩ := hrel
    obtain ⟨w6, rfl⟩ : ∃ w6, w6 = wr := ⟨_, rfl⟩
    have HO6 := Lib.hid hO
    clear hO
    by_cases hlt : k < N
    · obtain ⟨r, hr⟩ : ∃ r, rs[k]? = some r := ⟨rs[k]'(by rw [HN.out]; exact hlt), List.getElem?_eq_getElem _⟩
      obtain ⟨bb, off, rfl, hbb, hcs⟩ := HE5.out.at_ hr
      have hlk : l[k]? = some r.x := by rw [← HL.out, List.getElem?_map, hr]; rfl
      have hans := answers HE.out hlk
      obtain ⟨Ax, cx, kind, task, call, a0, a1, a2, result, data⟩ := r
      have c0 : w5.cell? ⟨bb, off + k * 8, none⟩ = some (.int .i64 kind) := hcs 0 _ rfl
      have c1 : w5.cell? ⟨bb, off + k * 8 + 1, none⟩ = some (.int .i64 task) := hcs 1 _ rfl
      have c2 : w5.cell? ⟨bb, off + k * 8 + 2, none⟩ = some (.int .i64 call) := hcs 2 _ rfl
      have HANS := Lib.hid hans
      have HC0 := Lib.hid c0
      have HC1 := Lib.hid c1
      have HC2 := Lib.hid c2
      have hki : (k : Int) < N := by omega
      clear hr hcs hlk hans c0 c1 c2
      go_wp2_with fail
      go_loopw [7, 8] (fun nv j wx => ∃ m : Nat, m ≤ M ∧ nv = .int .i64 (cntT cs k m : Nat) ∧ j = .int .i64 m ∧ Only Nil w5 wx) (fun _ j _ => M - (intOf j).toNat)
      case atStart => exact ⟨0, Nat.zero_le _, rfl, rfl, HO6.out⟩
      case round =>
        obtain ⟨m, hm, rfl, rfl, hOx⟩ := hrel
        have HOX := Lib.hid hOx
        clear hOx
        have hcm := cntT_le cs k m
        obtain ⟨C, hC⟩ : ∃ C, cntT cs k m = C := ⟨_, rfl⟩
        rw [hC] at hcm ⊢
        have HCC := Lib.hid hC
        have HCM : Hid (C ≤ 40) := Lib.hid (by omega)
        clear hC hcm
        have d0 : wr.cell? ⟨bb, off + k * 8, none⟩ = some (.int .i64 kind) := (HOX.out.cell (p := ⟨bb, off + k * 8, none⟩) hbb (fun x => x)).trans HC0.out
        have d1 : wr.cell? ⟨bb, off + k * 8 + 1, none⟩ = some (.int .i64 task) := (HOX.out.cell (p := ⟨bb, off + k * 8 + 1, none⟩) hbb (fun x => x)).trans HC1.out
        have d2 : wr.cell? ⟨bb, off + k * 8 + 2, none⟩ = some (.int .i64 call) := (HOX.out.cell (p := ⟨bb, off + k * 8 + 2, none⟩) hbb (fun x => x)).trans HC2.out
        by_cases hmM : m < M
        · obtain ⟨c, hc⟩ : ∃ c, cs[m]? = some c := ⟨cs[m]'(by rw [HM.out]; exact hmM), List.getElem?_eq_getElem _⟩
          obtain ⟨bc, oc, rfl, hbc, hcc⟩ := crow_at HROW.out hc
          have hsucc := cntT_succ (i := k) hc
          rw [HCC.out] at hsucc
          have hmem : c.x ∈ callsP l l.length := by rw [← HMAP.out]; exact List.mem_map.2 ⟨c, List.mem_of_getElem? hc, rfl⟩
          have hat := HANS.out.2 c.x hmem
          obtain ⟨Ad, cd, Ar, cr, ctask, number, b0, b1, b2, cdata, done, cresult, reply, beg, fin⟩ := c
          dsimp only at hat hsucc
          have hmi : (m : Int) < M := by omega
          have hw1 : IntKind.i64.wrap ((C : Int) + 1) = (C : Int) + 1 := IntWalk.i64_in _ (by have := HCM.out; omega)
          have f0 : wr.cell? ⟨bc, oc + m * 11, none⟩ = some (.int .i64 ctask) := (HOX.out.cell (p := ⟨bc, oc + m * 11, none⟩) hbc (fun x => x)).trans (hcc 0 _ rfl)
          have f1 : wr.cell? ⟨bc, oc + m * 11 + 1, none⟩ = some (.int .i64 number) := (HOX.out.cell (p := ⟨bc, oc + m * 11 + 1, none⟩) hbc (fun x => x)).trans (hcc 1 _ rfl)
          have f6 : wr.cell? ⟨bc, oc + m * 11 + 6, none⟩ = some (.bool done) := (HOX.out.cell (p := ⟨bc, oc + m * 11 + 6, none⟩) hbc (fun x => x)).trans (hcc 6 _ rfl)
          have f9 : wr.cell? ⟨bc, oc + m * 11 + 9, none⟩ = some (.int .i64 beg) := (HOX.out.cell (p := ⟨bc, oc + m * 11 + 9, none⟩) hbc (fun x => x)).trans (hcc 9 _ rfl)
          have f10 : wr.cell? ⟨bc, oc + m * 11 + 10, none⟩ = some (.int .i64 fin) := (HOX.out.cell (p := ⟨bc, oc + m * 11 + 10, none⟩) hbc (fun x => x)).trans (hcc 10 _ rfl)
          clear hc hcc hmem hbc
          by_cases hf : fin = (k : Int)
          · obtain ⟨g1, g2, g3, g4⟩ := hat hf
            dsimp only at g1 g2 g3 g4
            subst g1 g2 g3
            rw [if_pos hf] at hsucc
            subst hf
            have HSU := Lib.hid hsucc
            have hq1 : decide ((k : Int) ≤ beg) = false := decide_eq_false (by omega)
            have hq2 : decide ((beg : Int) ≥ k) = false := decide_eq_false (by omega)
            have hq3 : decide (k ≤ beg) = false := decide_eq_false (by omega)
            clear hat hsucc hlt
            go_wp2_with fail
            go_big_quiet (fail)
            go_wp2_with fail
            go_roundw
            case rel => exact ⟨m + 1, by omega, by rw [HSU.out]; go_num, by go_num, HOX.out.drewN _⟩
            case measure => simp [intOf]; omega
          · have hb : (fin == (k : Int)) = false := beq_false_of_ne hf
            rw [if_neg hf, Nat.add_zero] at hsucc
            have HSU := Lib.hid hsucc
            clear hat hsucc hf hlt
            go_wp2_with fail
            go_roundw
            case rel => exact ⟨m + 1, by omega, by rw [HSU.out] <;> rfl, by go_num, HOX.out⟩
            case measure => simp [intOf]; omega
        · obtain rfl : m = M := by omega
          have hCe : C = if kind = 2 then 1 else 0 := by
            rw [← HCC.out, ← HM.out, cntT_all HMAP.out]
            exact HANS.out.1
          by_cases k2 : kind = 2
          · rw [if_pos k2] at hCe
            subst hCe k2
            go_wp2_with fail
            go_roundw
            case rel => exact ⟨k + 1, by omega, by go_num, HOX.out⟩
            case measure => simp [intOf]; omega
          · rw [if_neg k2] at hCe
            have hb : (kind == 2) = false := beq_false_of_ne k2
            subst hCe
            clear k2
            go_wp2_with fail
            go_roundw
            case rel => exact ⟨k + 1, by omega, by go_num, HOX.out⟩
            case measure => simp [intOf]; omega
    · have hkN : k = N := by omega
      subst hkN
      go_wp2_with fail
      go_loopw [9] (fun i wr => ∃ m : Nat, m ≤ M ∧ i = .int .i64 m ∧ Only Nil w5 wr) (fun i _ => M - (intOf i).toNat)
      case atStart => exact ⟨0, Nat.zero_le _, rfl, HO6.out⟩
      case round =>
        obtain ⟨m, hm, rfl, hOx⟩ := hrel
        obtain ⟨w7, rfl⟩ : ∃ w7, w7 = wr := ⟨_, rfl⟩
        have HO7 := Lib.hid hOx
        clear hOx
        by_cases hmM : m < M
        · obtain ⟨c, hc⟩ : ∃ c, cs[m]? = some c := ⟨cs[m]'(by rw [HM.out]; exact hmM), List.getElem?_eq_getElem _⟩
          obtain ⟨bc, oc, rfl, hbc, hcc⟩ := crow_at HROW.out hc
          have hmem : c.x ∈ callsP l l.length := by rw [← HMAP.out]; exact List.mem_map.2 ⟨c, List.mem_of_getElem? hc, rfl⟩
          have hop := fun hd => open_start HE.out hmem (by exact hd)
          obtain ⟨Ad, cd, Ar, cr, ctask, number, b0, b1, b2, cdata, done, cresult, reply, beg, fin⟩ := c
          dsimp only at hop
          have hmi : (m : Int) < M := by omega
          have f0 : w5.cell? ⟨bc, oc + m * 11, none⟩ = some (.int .i64 ctask) := hcc 0 _ rfl
          have f6 : w7.cell? ⟨bc, oc + m * 11 + 6, none⟩ = some (.bool done) := (HO7.out.cell (p := ⟨bc, oc + m * 11 + 6, none⟩) hbc (fun x => x)).trans (hcc 6 _ rfl)
          have f9 : w7.cell? ⟨bc, oc + m * 11 + 9, none⟩ = some (.int .i64 beg) := (HO7.out.cell (p := ⟨bc, oc + m * 11 + 9, none⟩) hbc (fun x => x)).trans (hcc 9 _ rfl)
          have HF0 := Lib.hid f0
          clear hc hcc hmem f0
          cases done
          rotate_left
          · clear hop hlt
            go_wp2_with fail
            go_roundw
            case rel => exact ⟨m + 1, by omega, by go_num, HO7.out⟩
            case measure => simp [intOf]; omega
          obtain ⟨Q, hQ, hbl, hopen⟩ := hop rfl
          rw [HLEN.out] at hbl
          subst hQ
          have HOP := Lib.hid hopen
          have hwb : IntKind.i64.wrap ((beg : Int) + 1) = (beg : Int) + 1 := IntWalk.i64_in _ (by omega)
          clear hop hopen hlt
          go_wp2_with fail
          go_loopw [10, 11] (fun en j wx => ∃ (q : Nat) (b : Bool), q ≤ k ∧ en = .bool b ∧ j = .int .i64 q ∧ Only Nil w5 wx ∧ (b = false → OpenAt l Q q)) (fun _ j _ => k - (intOf j).toNat)
          case atStart => exact ⟨beg + 1, false, by omega, rfl, by go_num, HO7.out, fun _ => HOP.out⟩
          case round =>
            obtain ⟨q, en, hq, rfl, rfl, hOy, hope⟩ := hrel
            have HOY := Lib.hid hOy
            have HOPE := Lib.hid hope
            clear hOy hope f6 f9
            have g0 : wr.cell? ⟨bc, oc + m * 11, none⟩ = some (.int .i64 Q) := (HOY.out.cell (p := ⟨bc, oc + m * 11, none⟩) hbc (fun x => x)).trans HF0.out
            by_cases hqk : q < k
            · obtain ⟨r, hr⟩ : ∃ r, rs[q]? = some r := ⟨rs[q]'(by rw [HN.out]; exact hqk), List.getElem?_eq_getElem _⟩
              obtain ⟨bb, off, rfl, hbb, hcs⟩ := HE5.out.at_ hr
              have hlk : l[q]? = some r.x := by rw [← HL.out, List.getElem?_map, hr]; rfl
              have hstep := fun h => open_step (Q := Q) HE.out hlk (HOPE.out h)
              obtain ⟨Ax, cx, kind, task, call, a0, a1, a2, result, data⟩ := r
              dsimp only at hstep
              have c0 : wr.cell? ⟨bb, off + q * 8, none⟩ = some (.int .i64 kind) := (HOY.out.cell (p := ⟨bb, off + q * 8, none⟩) hbb (fun x => x)).trans (hcs 0 _ rfl)
              have c1 : wr.cell? ⟨bb, off + q * 8 + 1, none⟩ = some (.int .i64 task) := (HOY.out.cell (p := ⟨bb, off + q * 8 + 1, none⟩) hbb (fun x => x)).trans (hcs 1 _ rfl)
              have hqi : (q : Int) < k := by omega
              have HST := Lib.hid hstep
              clear hr hcs hlk hstep
              by_cases ht : task = (Q : Int)
              rotate_left
              · have hb : (task == (Q : Int)) = false := beq_false_of_ne ht
                have hrel : ∀ b : Bool, en = b → (b = false → OpenAt l Q (q + 1)) := fun b hb h => (HST.out (by rw [hb, h])).1 ht
                have HRL := Lib.hid hrel
                clear ht hrel
                go_wp2_with fail
                go_big_quiet (fail)
                go_wp2_with fail
                go_roundw
                case rel => exact ⟨q + 1, en, by omega, rfl, by go_num, HOY.out.drewN _, HRL.out _ rfl⟩
                case measure => simp [intOf]; omega
              subst ht
              have hst2 := fun h => (HST.out h).2 rfl
              have HS2 := Lib.hid hst2
              clear hst2
              by_cases k6 : kind = 6
              · subst k6
                cases en
                all_goals
                  go_wp2_with fail
                  go_big_quiet (fail)
                  go_wp2_with fail
                  go_roundw
                  case rel => exact ⟨q + 1, true, by omega, rfl, by go_num, HOY.out.drewN _, fun h => absurd h (by decide)⟩
                  case measure => simp [intOf]; omega
              · have hb6 : (kind == 6) = false := beq_false_of_ne k6
                cases en
                · obtain ⟨k1, hnext⟩ := HS2.out rfl
                  have hb1 : (kind == 1) = false := beq_false_of_ne k1
                  have HNX := Lib.hid (hnext k6)
                  clear k1 k6 hnext
                  go_wp2_with fail
                  go_big_quiet (fail)
                  go_wp2_with fail
                  go_roundw
                  case rel => exact ⟨q + 1, false, by omega, rfl, by go_num, HOY.out.drewN _, fun _ => HNX.out⟩
                  case measure => simp [intOf]; omega
                · by_cases k1 : kind = 1
                  · subst k1
                    clear k6
                    go_wp2_with fail
                    go_big_quiet (fail)
                    go_wp2_with fail
                    go_roundw
                    case rel => exact ⟨q + 1, true, by omega, rfl, by go_num, HOY.out.drewN _, fun h => absurd h (by decide)⟩
                    case measure => simp [intOf]; omega
                  · have hb1 : (kind == 1) = false := beq_false_of_ne k1
                    clear k1 k6
                    go_wp2_with fail
                    go_big_quiet (fail)
                    go_wp2_with fail
                    go_roundw
                    case rel => exact ⟨q + 1, true, by omega, rfl, by go_num, HOY.out.drewN _, fun h => absurd h (by decide)⟩
                    case measure => simp [intOf]; omega
            · obtain rfl : q = k := by omega
              go_wp2_with fail
              go_roundw
              case rel => exact ⟨m + 1, by omega, by go_num, HOY.out⟩
              case measure => simp [intOf]; omega
        · obtain rfl : m = M := by omega
          go_wp2_with fail
          go_ret
          exact ⟨rfl, HO5.out.thenNil HO7.out⟩

set_option maxRecDepth 100000 in
theorem from_args {H : Type} {enc : TypeId × Value → H} (W : World) (base : Nat) (args : Array Value) (ds : List (DataW H)) (ps : List MemPlace)
    (hval0 : ∀ (j : Nat) t v, Try.f5.params[j]? = some t → args[j]? = some v → Value.okWide Try.prog W .any base t v)
    (hA : DataW.TrodAll enc Try.prog W 0 (fun _ => true) true Try.f5.params.toList args.toList ds ps) (_hlt : ∀ x ∈ ps, x.block < W.heap.size)
    (hsz : (DataW.weightsEach Try.prog Try.f5.params.toList ds).all (· ≤ reachBytes) = true) : Calls Try.prog 5 args W (LawPost W) := by
  have hval := hval0
  rw [Try.params5] at hA hval hsz
  obtain ⟨v0, vs0, d0, ds0, p0, q0, hargs, rfl, rfl, h0, r0⟩ := trodAll_cons hA
  obtain ⟨rfl, rfl, rfl⟩ := trodAll_nil r0
  obtain rfl : args = #[v0] := by cases args; simp_all
  obtain ⟨A, rs, ca, rfl, h1', h2', hE⟩ := open_entries (hval 0 _ v0 rfl rfl) h0
  exact walk A ca rs W hE (by omega)

set_option maxRecDepth 100000 in
theorem over : Rows.replayAnswersRow.holds Try.pinned (OpenSpec.ofChange Rows.replayAnswersSpec) :=
  OpenClaim.holds_of_wide 5 Try.f5 rfl rfl rfl rfl rfl rfl rfl ⟨rfl, rfl, rfl, rfl, rfl⟩ rfl rfl rfl rfl rfl (by kernel_rfl) Try.func5 (by kernel_rfl)
    (of_decide_eq_true (by kernel_rfl)) (by unfold Func.isWrapper; first | (rw [if_pos (by decide +kernel)]; kernel_rfl) | (rw [if_neg (by decide +kernel)]; exact ⟨rfl, rfl⟩))
    (fun os started H enc _ => law_lifted (f := 5) (F := Try.f5) (s := Rows.replayAnswersSpec) os started H enc (by kernel_rfl) Try.func5 rfl rfl (by kernel_rfl) (by kernel_rfl)
      (fun ds hd => by match ds, hd with | [_], _ => rfl)
      (ChangeSpec.witness6 (enc := enc) (C := Try.checked) false ⟨#[], #[.slice none 0 0], []⟩ 8 (by kernel_rfl) (by kernel_rfl) (by kernel_rfl) (by kernel_rfl))
      (fun W base args ds ps hv hA hlt hsz => from_args W base args ds ps hv hA hlt hsz))

/-- The statement. -/
theorem proved : Rows.ReplayAnswersSaid := over

end replayAnswers
end Go.Proofs.Ytdejceojhkdjnaa
