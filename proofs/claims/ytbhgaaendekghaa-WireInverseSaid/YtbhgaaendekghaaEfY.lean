/-
  The walk of wire's Reader.Strings.
  Conditions: the reader stands within its bytes; they are at most 2 to the power 40.
-/
import Derived.Test.YtbhgaaendekghaaEfU
import Derived.Test.YtbhgaaendekghaaEfC
import Derived.Deep.RegionHeld3
import Derived.BigQuiet
namespace Go.Proofs.Ytbhgaaendekghaa
open Go.RowKit

theorem string_info : (Try.prog.info? 9).map (fun i => (i.zero, i.size, i.bytes)) = some (some (.string .empty), 1, 16) := by kernel_rfl
theorem BytPost.uni {most : Int} {p : Nat} {A : Option Addr} {c : Nat} {l : List UInt8} {pos : Nat} {f : Bool} {w w' : World} {e : Ending} (h : BytPost most p A c l pos f w e w') :
    ∃ (x : List UInt8) (m : Nat) (Ax : Option Addr) (cx : Nat) (b : Bool) (pos' : Nat), e = .returned (.tuple #[.slice Ax x.length cx, .bool b]) ∧ RR w' p A c l pos' f ∧ pos' ≤ l.length ∧ Only (One p) w w' ∧ Bs w' w'.heap.size Ax x ∧
      ((b = true ∧ decB most (l.drop pos) = some (x, m) ∧ pos' = pos + m) ∨ (b = false ∧ decB most (l.drop pos) = none)) := by
  obtain ⟨pos', h1, h2, h3, ⟨x, m, Ax, cx, h4, h5, h6, h7, h8⟩ | ⟨h4, h5⟩⟩ := h
  · exact ⟨x, m, Ax, cx, true, pos', h6, h1, h2, h3, (Bs.of_own h8).1, .inl ⟨rfl, h4, h5⟩⟩
  · exact ⟨[], 0, none, 0, false, pos', h5, h1, h2, h3, Bs.nil _ _ _, .inr ⟨rfl, h4⟩⟩
theorem stwo_no (z : Int) : NoU8 #[Value.int .i64 z] := by
  intro i y
  match i with
  | 0 => simp
  | n + 1 => simp

set_option maxHeartbeats 1000000 in
/-- try with the closure of Strings: where the closure answers false, the reader fails at its old place. -/
theorem try_Strings (v0 v1 v2 : Value) (Q : Bool → World → Prop) (p : Nat) (A : Option Addr) (c : Nat) (l : List UInt8) (pos : Nat) (w : World) (h : RR w p A c l pos false)
    (hcall : Calls Try.prog 66 #[v0, v1, v2] w fun e w' => ∃ b, e = .returned (.bool b) ∧ (∃ pos', RR w' p A c l pos' false) ∧ Q b w') :
    Calls Try.prog 60 #[.pointer (some ⟨p, 0, none⟩), .func (Fn.func 66) #[] #[v0, v1, v2]] w (TryPost Q p A c l pos) := by
  have HC := Lib.hid hcall
  have kb : ∀ i, w.cell? ⟨p, i, none⟩ = #[Value.slice A l.length c, .int .i64 pos, .bool false][i]? := fun i => h.box.cell i
  clear hcall h
  go_enter Try.func60, Try.ntmps60
  go_wp2_with fail
  refine HC.out.mono ?_
  rintro e w1 ⟨b, rfl, ⟨pos', hR⟩, hQ⟩
  have HR := Lib.hid hR
  have HQ := Lib.hid hQ
  have kb1 : ∀ i, w1.cell? ⟨p, i, none⟩ = #[Value.slice A l.length c, .int .i64 pos', .bool false][i]? := fun i => hR.box.cell i
  have fb1 : ∀ i, w1.frozen? ⟨p, i, none⟩ = false := fun i => hR.box.frozen i
  clear hR hQ kb
  cases b
  · go_wp2_with fail
    refine bodyPost_end (v := .tuple #[]) (by simp [results, Try.results60, go_sem]) rfl ?_
    have hO : ∀ u, Only (One p) w1 u → Blk u p 96 #[.slice A l.length c, .int .i64 pos, .bool true] → TryPost Q p A c l pos (.returned (.tuple #[])) u := fun u hO hb =>
      ⟨⟨_, rfl⟩, .inr ⟨w1, HQ.out, HR.out.move hO hb, hO⟩⟩
    refine hO _ ?_ ((HR.out.box.set_ 1 _).set_ 2 _)
    (repeat' (first | with_reducible exact Only.refl _ _ | with_reducible refine Only.setCell ?_ (Or.inl ?_) _ | with_reducible refine Only.drewN ?_ _ | with_reducible refine Only.drew ?_ | with_reducible refine Only.alloc ?_ _ | (exact rfl)))
  · go_wp2_with fail
    refine bodyPost_end (v := .tuple #[]) (by simp [results, Try.results60, go_sem]) rfl ?_
    exact ⟨⟨_, rfl⟩, .inl HQ.out⟩


def StrQ (most : Int) (p g : Nat) (A : Option Addr) (c : Nat) (l : List UInt8) (pos : Nat) (w : World) (b : Bool) (w' : World) : Prop :=
  Only (Two p g) w w' ∧ ((b = true ∧ ∃ (ss : List (List UInt8)) (n : Nat) (Ax : Option Addr) (cx : Nat), decSs most l.length (l.drop pos) = some (ss, n) ∧ RR w' p A c l (pos + n) false ∧ Blk w' g 61 #[.slice Ax ss.length cx] ∧ ss.length ≤ cx ∧ w'.ownsRow w.heap.size 9 1 (.slice Ax ss.length cx) ss.length (ss.map sval)) ∨
    (b = false ∧ decSs most l.length (l.drop pos) = none ∧ Blk w' g 61 #[.slice none 0 0]))

set_option maxRecDepth 100000 in
set_option maxHeartbeats 4000000 in
theorem clo_Strings (most : Int) (g1 g3 g2 : Nat) (p : Nat) (A : Option Addr) (c : Nat) (l : List UInt8) (pos : Nat) (w : World) (h : RR w p A c l pos false) (hp : pos ≤ l.length) (hl : l.length ≤ 1099511627776) (hc : c ≤ maxLen)
    (b1 : Blk w g1 53 #[.pointer (some ⟨p, 0, none⟩)]) (b3 : Blk w g3 3 #[.int .i64 most]) (b2 : Blk w g2 61 #[.slice none 0 0]) :
    Calls Try.prog 66 #[.pointer (some ⟨g1, 0, none⟩), .pointer (some ⟨g3, 0, none⟩), .pointer (some ⟨g2, 0, none⟩)] w (CloPost (StrQ most p g2 A c l pos w) p A c l) := by
  obtain ⟨i0, hi0, hz0, hz1, hz2⟩ := info_parts string_info
  have n2 : g2 ≠ p := b2.ne_ h.box (by decide)
  have n1 : g1 ≠ p := b1.ne_ h.box (by decide)
  have hpw := h.box.lt
  have hg2w := b2.lt
  have H0 := Lib.hid h
  have HBND := Lib.hid (bounded_any 0 most p A c l pos false w h hp hl)
  have B1 := Lib.hid b1
  have B2 := Lib.hid b2
  have HL := Lib.hid hl
  have HC := Lib.hid hc
  have N1 := Lib.hid n1
  have N2 := Lib.hid n2
  have HPW := Lib.hid hpw
  have HG2 := Lib.hid hg2w
  have k1 : w.cell? ⟨g1, 0, none⟩ = some (.pointer (some ⟨p, 0, none⟩)) := b1.cell 0
  have k3 : w.cell? ⟨g3, 0, none⟩ = some (.int .i64 most) := b3.cell 0
  obtain ⟨L, hL⟩ : ∃ L, l.length = L := ⟨_, rfl⟩
  have HLL := Lib.hid hL
  clear h hp hl hc b1 b2 b3 n1 n2 hpw hg2w hL
  go_enter Try.func66, Try.ntmps66
  go_wp2_with fail
  refine HBND.out.mono ?_
  clear HBND k3
  rintro e w1 ⟨q0, hR, hq0, hO, hcase⟩
  have HB1 := Lib.hid (B1.out.only hO (fun hx => N1.out hx))
  have HB2 := Lib.hid (B2.out.only hO (fun hx => N2.out hx))
  have HR := Lib.hid hR
  have HO := Lib.hid hO
  have HQ0 := Lib.hid hq0
  have hfalse : decSs most l.length (l.drop pos) = none → ∀ u q, RR u p A c l q false → Only (One p) w u → CloPost (StrQ most p g2 A c l pos w) p A c l (.returned (.bool false)) u := fun hd u q hRu hOu =>
    ⟨false, rfl, ⟨q, hRu⟩, hOu.more (fun x hx => .inl hx), .inr ⟨rfl, hd, B2.out.only hOu (fun hx => N2.out hx)⟩⟩
  have HF := Lib.hid hfalse
  have hbx := hR.box
  rw [HLL.out] at hbx
  have k1 : w1.cell? ⟨g1, 0, none⟩ = some (.pointer (some ⟨p, 0, none⟩)) := HB1.out.cell 0
  have kd1 : w1.drew.cell? ⟨g1, 0, none⟩ = some (.pointer (some ⟨p, 0, none⟩)) := HB1.out.drew.cell 0
  have kp : ∀ i, w1.cell? ⟨p, i, none⟩ = #[Value.slice A L c, .int .i64 q0, .bool false][i]? := fun i => hbx.cell i
  have kdp : ∀ i, w1.drew.cell? ⟨p, i, none⟩ = #[Value.slice A L c, .int .i64 q0, .bool false][i]? := fun i => hbx.drew.cell i
  clear hR hO hq0 hfalse hbx
  have hbad : (∃ z : Int, decSs most l.length (l.drop pos) = none ∧ e = .returned (.tuple #[.int .i64 z, .bool false])) ∨ (∃ (z : Int) (n : Nat), dec (l.drop pos) = some (z, n) ∧ q0 = pos + n ∧ (0 ≤ z ∧ z ≤ most) ∧ e = .returned (.tuple #[.int .i64 z, .bool true])) := by
    rcases hcase with ⟨z, n, hd, rfl, rfl⟩ | ⟨hd, rfl⟩
    · by_cases hz : 0 ≤ z ∧ z ≤ most
      · rw [decide_eq_true hz]
        exact .inr ⟨z, n, hd, rfl, hz, rfl⟩
      · rw [decide_eq_false hz]
        refine .inl ⟨z, ?_, rfl⟩
        unfold decSs
        rw [hd]
        dsimp only
        rw [if_neg (fun h => hz ⟨h.1, h.2.1⟩)]
    · exact .inl ⟨0, by unfold decSs; rw [hd], rfl⟩
  clear hcase
  rcases hbad with ⟨z, hN, rfl⟩ | ⟨z, n, hd, rfl, hz, rfl⟩
  · have HF2 := Lib.hid (fun (u : World) (hu : Only Nil w1 u) => HF.out hN u _ (HR.out.onlyNil hu) (HO.out.thenNil hu))
    clear hN
    go_wp2_with fail
    go_quiet (fail)
    go_wp2_with fail
    go_ret
    exact HF2.out _ ((Only.refl _ _).drewN _)
  have hq0l := HQ0.out
  have hl40 := HL.out
  rw [HLL.out] at hq0l hl40
  obtain ⟨N, rfl⟩ : ∃ N : Nat, z = (N : Int) := ⟨z.toNat, by omega⟩
  have hwrap : IntKind.i64.wrap ((L : Int) - ((pos + n : Nat) : Int)) = (L : Int) - ((pos + n : Nat) : Int) := IntWalk.i64_in _ (by omega)
  obtain ⟨q, hq⟩ : ∃ q, pos + n = q := ⟨_, rfl⟩
  rw [hq] at hwrap hq0l HR kp kdp HQ0
  by_cases hNq : (N : Int) ≤ (L : Int) - (q : Int)
  rotate_left
  · have hN : decSs most l.length (l.drop pos) = none := by
      unfold decSs
      rw [hd]
      dsimp only
      rw [if_neg (fun h => hNq (by have h3 := h.2.2; rw [List.length_drop, List.length_drop, HLL.out] at h3; omega))]
    have hlt : (L : Int) - (q : Int) < (N : Int) := by omega
    have HF2 := Lib.hid (fun (u : World) (hu : Only Nil w1 u) => HF.out hN u _ (HR.out.onlyNil hu) (HO.out.thenNil hu))
    clear hN hd hz hNq hq
    go_wp2_with fail
    go_quiet (fail)
    go_wp2_with fail
    go_ret
    exact HF2.out _ ((Only.refl _ _).drewN _)
  have hnlt : ¬ (L : Int) - (q : Int) < (N : Int) := by omega
  have hdf : decSs most l.length (l.drop pos) = (decSn l.length N (l.drop q)).map fun r => (r.1, n + r.2) := by
    unfold decSs
    rw [hd]
    dsimp only
    rw [if_pos ⟨hz.1, hz.2, by rw [List.length_drop, List.length_drop, HLL.out]; omega⟩, List.drop_drop, hq, Int.toNat_natCast]
  have HDF := Lib.hid hdf
  have HQQ := Lib.hid hq
  have hNL : N ≤ 1099511627776 := by omega
  have HNL := Lib.hid hNL
  clear hd hz hdf hNq hq
  go_wp2_with fail
  go_quiet (fail)
  go_wp2_with fail
  go_loopw [6, 32] (fun vo vi wr => ∃ (k : Nat) (Ao : Option Addr) (co : Nat) (ss : List (List UInt8)) (j : Nat), k ≤ N ∧ vi = .int .i64 k ∧ vo = .slice Ao k co ∧ ss.length = k ∧ k ≤ co ∧ RestS l.length N (l.drop q) ss j ∧ wr.ownsRow w.heap.size 9 1 (.slice Ao k co) k (ss.map sval) ∧ RR wr p A c l (q + j) false ∧ Only (One p) w wr) (fun _ vi _ => N - (intOf vi).toNat)
  case atStart => exact ⟨0, none, 0, [], 0, Nat.zero_le _, rfl, rfl, rfl, Nat.le_refl _, RestS.zero _ _ _, World.ownsRow_nil _ _ _ _, HR.out.onlyNil ((Only.refl _ _).drewN _), HO.out.drewN _⟩
  case round =>
    obtain ⟨k, Ao, co, ss, j, hk, rfl, rfl, hsl, hco, hrest, hown, hRk, hOk⟩ := hrel
    have hjl := hrest.2.1
    rw [List.length_drop] at hjl
    have HSL := Lib.hid hsl
    have HCO := Lib.hid hco
    have HREST := Lib.hid hrest
    have HOWN := Lib.hid hown
    have HRK := Lib.hid hRk
    have HOK := Lib.hid hOk
    have HB1k := Lib.hid (B1.out.only hOk (fun hx => N1.out hx))
    have HPJ := Lib.hid (show q + j ≤ l.length by have := HQ0.out; omega)
    clear hsl hco hrest hown hRk hOk hjl k1 kd1 kp kdp
    by_cases hlt : k < N
    · have hki : (k : Int) < N := by omega
      have hbx := HRK.out.box
      rw [HLL.out] at hbx
      have HBY : Hid (∀ u, Only Nil wr u → Calls Try.prog 67 #[.pointer (some ⟨p, 0, none⟩), .int .i64 L] u (BytPost L p A c l (q + j) false u)) := Lib.hid (fun u hu => rdbytes_any L p A c l (q + j) false u (HRK.out.onlyNil hu) HPJ.out HL.out HC.out)
      have ka : wr.drew.cell? ⟨g1, 0, none⟩ = some (.pointer (some ⟨p, 0, none⟩)) ∧ wr.drew.cell? ⟨p, 0, none⟩ = some (.slice A L c) := ⟨HB1k.out.drew.cell 0, hbx.drew.cell 0⟩
      have HS4 : Hid (∀ u w4, Only Nil wr u → Only (One p) u w4 → ∀ q', RR w4 p A c l q' false → (w4.cell? ⟨g1, 0, none⟩ = some (.pointer (some ⟨p, 0, none⟩)) ∧ w4.cell? ⟨p, 0, none⟩ = some (.slice A L c))) := Lib.hid (fun u w4 hu h4 q' hR => by
        have h1 := hR.box
        rw [HLL.out] at h1
        exact ⟨((HB1k.out.onlyNil hu).only h4 (fun hx => N1.out hx)).cell 0, h1.cell 0⟩)
      have HKN := Lib.hid hlt
      clear hlt hbx
      go_upto_region 7 with fail
      go_region_held3 (fun w' => w'.cell? ⟨g1, 0, none⟩ = some (.pointer (some ⟨p, 0, none⟩)) ∧ w'.cell? ⟨p, 0, none⟩ = some (.slice A L c)) (first | with_reducible assumption | exact ka | go_keep)
        (first
          | (go_simp; go_at_call 67; refine (HBY.out _ ((Only.refl _ _).drew)).mono ?_; rintro e w4 hpost; obtain ⟨x, m, Ax, cx, b, q4, rfl, hR4, hq4, hO4, hbx4, hcase⟩ := hpost.uni; have hs4 := HS4.out _ _ ((Only.refl _ _).drew) hO4 _ hR4; have hO4 : Only (One p) wr w4 := ((Only.refl (One p) wr).drew).then_ hO4)
          | fail)
      all_goals
        have HR4 := Lib.hid hR4
        have HO4 := Lib.hid (HOK.out.then_ hO4)
        have hown4 := own_only HOWN.out hO4 (fun q hq hx => own_blk_ne HOWN.out HRK.out.box (by decide) (by rw [hq, hx]))
        have HOWN4 := Lib.hid hown4
        have HBX := Lib.hid hbx4
        clear hR4 hO4 hq4 hs4 ka hown4 hbx4 HS4 HBY
        rcases hcase with ⟨rfl, hd, rfl⟩ | ⟨rfl, hd⟩
        rotate_left
        · have hN : decSs most l.length (l.drop pos) = none := by
            have h1 := HREST.out.none_ (by have := HSL.out; have := HKN.out; omega) (by rw [List.drop_drop, HLL.out]; exact hd)
            rw [HDF.out, h1]
            rfl
          have HF2 := Lib.hid (HF.out hN _ _ HR4.out HO4.out)
          clear hN hd
          go_wp2_with fail
          go_ret
          exact HF2.out
        have hrest2 := HREST.out.more (x := x) (n := m) (by have := HSL.out; have := HKN.out; omega) (by rw [List.drop_drop, HLL.out]; exact hd)
        have hx := (decB_some hd).2.2.1
        have HST := Lib.hid (run_str (P := Try.prog) w4 22 9 5 Try.underlying22 Try.underlying5 Try.underlying9 (c := cx) HBX.out rfl)
        have hst := HST.out
        have hO6 : Only Nil w4 (w4.alloc (.cells #[.string ⟨x.toArray⟩] 9)) := (Only.refl _ _).alloc _
        have hb6 : Blk (w4.alloc (.cells #[.string ⟨x.toArray⟩] 9)) w4.heap.size 9 #[.string ⟨x.toArray⟩] := Blk.new _ _ _
        have hrow := own_onlyNil HOWN4.out hO6
        have hbase : w.heap.size ≤ (w4.alloc (.cells #[.string ⟨x.toArray⟩] 9)).heap.size := Nat.le_trans HO4.out.size hO6.size
        have hcells : ss.map sval ++ [.string ⟨x.toArray⟩] = (ss ++ [x]).map sval := by rw [List.map_append]; rfl
        have HROW := Lib.hid hrow
        have HB6 := Lib.hid hb6
        have HBASE := Lib.hid hbase
        have HO46 := Lib.hid hO6
        have HCELLS := Lib.hid hcells
        have HREST2 := Lib.hid hrest2
        have HONE : Hid (∀ u ∈ ([.string ⟨x.toArray⟩] : List Value), u.oneCell' = true) := Lib.hid (sval_one [x])
        clear hrest2 hx hO6 hb6 hrow hbase hcells hd
        go_wp2_with (at_builtin; go_must (refine wpList_append_rd _ rfl (.tmp 46) (.tmp 49) _ rfl w.heap.size 9 i0 _ 1 16 Try.underlying61 hi0 hz0 hz1 hz2 rfl (by omega) (.slice Ao k co) k (ss.map sval) rfl HROW.out (w4.heap.size + 1) (some ⟨w4.heap.size, 0, none⟩) 1 1 _ rfl (Rd.blk HB6.out rfl) HONE.out (k + 1) rfl _ HCELLS.out (by have := HKN.out; have := HNL.out; unfold maxLen; omega) (by have := HKN.out; have := HNL.out; omega) HBASE.out ?_))
        intro A7 c7 w7 hc7 hown7 hgr7 hat7
        have HG7 := Lib.hid hgr7
        have HOWN7 := Lib.hid hown7
        have HC7 := Lib.hid hc7
        clear hc7 hown7 hgr7 hat7 hst
        go_wp2_with fail
        go_roundw
        case rel =>
          have hO7 : Only (One p) w w7 := (HO4.out.thenNil HO46.out).grown HG7.out (fun q hq => .inr (ownBlock_ge HROW.out hq))
          have hb7 := (HR4.out.box.onlyNil HO46.out).grown HG7.out (fun e => own_blk_ne HROW.out (HR4.out.box.onlyNil HO46.out) (by decide) e.symm)
          have hr7 := H0.out.move hO7 hb7
          exact ⟨k + 1, A7, c7, ss ++ [x], j + m, by have := HKN.out; omega, by go_num, rfl, by rw [List.length_append, HSL.out]; rfl, HC7.out, HREST2.out, (by rw [← HCELLS.out]; exact HOWN7.out), by rw [← Nat.add_assoc]; exact hr7, hO7⟩
        case measure => simp [intOf]; have := HKN.out; omega
    · have hkN : k = N := by omega
      have hki : ¬ (k : Int) < N := by omega
      have hdone := HREST.out.done (by have := HSL.out; omega)
      have hdss : decSs most l.length (l.drop pos) = some (ss, n + j) := by rw [HDF.out, hdone]; rfl
      have hb2 := B2.out.only HOK.out (fun hx => N2.out hx)
      have k1 : wr.cell? ⟨g1, 0, none⟩ = some (.pointer (some ⟨p, 0, none⟩)) := HB1k.out.cell 0
      have k2 : ∀ i, wr.cell? ⟨g2, i, none⟩ = #[Value.slice none 0 0][i]? := fun i => hb2.cell i
      have f2 : ∀ i, wr.frozen? ⟨g2, i, none⟩ = false := fun i => hb2.frozen i
      have hfin : ∀ u, Only (One g2) wr u → Blk u g2 61 #[.slice Ao k co] → CloPost (StrQ most p g2 A c l pos w) p A c l (.returned (.bool true)) u := fun u hS hb => by
        have hR := HRK.out.far hb2 (sone_no _ _ _) (fun e => N2.out e.symm) hS
        rw [← HQQ.out, Nat.add_assoc] at hR
        refine ⟨true, rfl, ⟨_, hR⟩, (HOK.out.more (fun x hx => .inl hx)).then_ (hS.more (fun x hx => .inr hx)), .inl ⟨rfl, ss, n + j, Ao, co, hdss, hR, by rw [HSL.out]; exact hb, by rw [HSL.out]; exact HCO.out, ?_⟩⟩
        rw [HSL.out]
        exact own_only HOWN.out hS (fun q hq hx => own_blk_ne HOWN.out hb2 (by decide) (by rw [hq, hx]))
      have HFIN := Lib.hid hfin
      have HB2k := Lib.hid hb2
      clear hdone hdss hb2 hfin hkN hlt
      go_wp2_with fail
      go_ret
      refine HFIN.out _ ?_ (HB2k.out.set_ 0 _)
      (repeat' (first | with_reducible exact Only.refl _ _ | with_reducible refine Only.setCell ?_ (Or.inl ?_) _ | with_reducible refine Only.drewN ?_ _ | with_reducible refine Only.drew ?_ | with_reducible refine Only.alloc ?_ _ | (exact rfl)))

/-- What the method answers. -/
def RStrsPost (r : List (List UInt8) × Nat × Bool) (p : Nat) (A : Option Addr) (c : Nat) (l : List UInt8) (w : World) (e : Ending) (w' : World) : Prop :=
  ∃ Ax cx, e = .returned (.slice Ax r.1.length cx) ∧ r.1.length ≤ cx ∧ w'.ownsRow w.heap.size 9 1 (.slice Ax r.1.length cx) r.1.length (r.1.map sval) ∧ RR w' p A c l r.2.1 r.2.2 ∧ Only (One p) w w'

set_option maxRecDepth 100000 in
set_option maxHeartbeats 1000000 in
theorem rStrs_any (most : Int) (p : Nat) (A : Option Addr) (c : Nat) (l : List UInt8) (pos : Nat) (f : Bool) (w : World) (h : RR w p A c l pos f) (hp : pos ≤ l.length) (hl : l.length ≤ 1099511627776) (hc : c ≤ maxLen) :
    Calls Try.prog 37 #[.pointer (some ⟨p, 0, none⟩), .int .i64 most] w (RStrsPost (rStrs most l pos f) p A c l w) := by
  obtain ⟨w2, hw2⟩ : ∃ w2, w2 = ((w.alloc (.cells #[.pointer (some ⟨p, 0, none⟩)] 53)).alloc (.cells #[.int .i64 most] 3)).alloc (.cells #[.slice none 0 0] 61) := ⟨_, rfl⟩
  have hO2 : Only Nil w w2 := by rw [hw2]; exact (((Only.refl _ _).alloc _).alloc _).alloc _
  have hb1 : Blk w2 w.heap.size 53 #[.pointer (some ⟨p, 0, none⟩)] := by rw [hw2]; exact ((Blk.new _ _ _).alloc _).alloc _
  have hb3 : Blk w2 (w.heap.size + 1) 3 #[.int .i64 most] := by
    rw [hw2]
    have := Blk.new (w.alloc (.cells #[.pointer (some ⟨p, 0, none⟩)] 53)) 3 #[.int .i64 most]
    rw [World.size_alloc] at this
    exact this.alloc _
  have hb2 : Blk w2 (w.heap.size + 1 + 1) 61 #[.slice none 0 0] := by
    rw [hw2]
    have := Blk.new ((w.alloc (.cells #[.pointer (some ⟨p, 0, none⟩)] 53)).alloc (.cells #[.int .i64 most] 3)) 61 #[.slice none 0 0]
    rw [World.size_alloc, World.size_alloc] at this
    exact this
  have hpw := h.box.lt
  have hR2 := h.onlyNil hO2
  have HB2 := Lib.hid hb2
  have HO2 := Lib.hid hO2
  have HR2 := Lib.hid hR2
  obtain ⟨r, hr⟩ : ∃ r, rStrs most l pos f = r := ⟨_, rfl⟩
  rw [hr]
  have HRR := Lib.hid hr
  cases f
  · have ht := try_Strings _ _ _ _ p A c l pos w2 hR2 (clo_Strings most w.heap.size (w.heap.size + 1) (w.heap.size + 1 + 1) p A c l pos w2 hR2 hp hl hc hb1 hb3 hb2)
    have HT := Lib.hid ht
    clear ht hR2 hb1 hb2 hb3 h hp hl hr hc hO2
    go_enter Try.func37, Try.ntmps37
    go_wp2_with fail
    rw [← hw2]
    clear hw2
    refine HT.out.mono ?_
    rintro e w1 ⟨⟨v, rfl⟩, hq⟩
    have hfin : ∃ Ax cx, Blk w1 (w.heap.size + 1 + 1) 61 #[.slice Ax r.1.length cx] ∧ r.1.length ≤ cx ∧ w1.ownsRow w.heap.size 9 1 (.slice Ax r.1.length cx) r.1.length (r.1.map sval) ∧ RR w1 p A c l r.2.1 r.2.2 ∧ Only (One p) w w1 := by
      rw [← HRR.out]
      unfold rStrs
      rcases hq with ⟨hO, ⟨_, ss, n, Ax, cx, hd, hR, hb, hcx, hown⟩ | ⟨h1, _⟩⟩ | ⟨u, ⟨hO, ⟨h1, _⟩ | ⟨_, hd, hb⟩⟩, hR, hOu⟩
      · rw [if_neg (by simp), hd]
        exact ⟨Ax, cx, hb, hcx, own_base hown HO2.out.size, hR, HO2.out.any.trans hO (fun x hx => by rcases hx with hx | hx; exact .inl hx; exact .inr (by omega))⟩
      · cases h1
      · cases h1
      · rw [if_neg (by simp), hd]
        exact ⟨none, 0, hb.only hOu (by unfold One; omega), Nat.le_refl _, World.ownsRow_nil _ _ _ _, hR, (HO2.out.any.trans hO (fun x hx => by rcases hx with hx | hx; exact .inl hx; exact .inr (by omega))).then_ hOu⟩
    obtain ⟨Ax, cx, hb, hcx, hown, hR, hO⟩ := hfin
    have k2 : ∀ i, w1.cell? ⟨w.heap.size + 1 + 1, i, none⟩ = #[Value.slice Ax r.1.length cx][i]? := fun i => hb.cell i
    have f2 : ∀ i, w1.frozen? ⟨w.heap.size + 1 + 1, i, none⟩ = false := fun i => hb.frozen i
    have hfin : ∀ u, Only (One (w.heap.size + 1 + 1)) w1 u → RStrsPost r p A c l w (.returned (.slice Ax r.1.length cx)) u := fun u hS =>
      ⟨Ax, cx, rfl, hcx, own_only hown hS (fun q hq hx => own_blk_ne hown hb (by decide) (by rw [hq, hx])), hR.far hb (sone_no _ _ _) (by omega) hS, hO.trans hS (fun x hx => .inr (by unfold One at hx; omega))⟩
    obtain ⟨X, hX⟩ : ∃ X, r.1.length = X := ⟨_, rfl⟩
    rw [hX] at k2 hfin
    have HF := Lib.hid hfin
    clear hb hR hO hq hcx hown hX hfin HRR
    go_wp2_with fail
    refine bodyPost_ret (v := .slice Ax X cx) (by simp [results, Try.results37, go_sem, k2]) rfl ?_
    refine HF.out _ ?_
    (repeat' (first | with_reducible exact Only.refl _ _ | with_reducible refine Only.setCell ?_ (Or.inl ?_) _ | with_reducible refine Only.drewN ?_ _ | with_reducible refine Only.drew ?_ | with_reducible refine Only.alloc ?_ _ | (exact rfl)))
  · have hr1 : r = ([], pos, true) := by rw [← hr]; rfl
    have HR1 := Lib.hid hr1
    have HT := Lib.hid (fun F => try_failed F p A c l pos w2 hR2)
    clear hR2 hb1 hb2 hb3 h hp hl hr hr1 hc hO2
    go_enter Try.func37, Try.ntmps37
    go_wp2_with fail
    rw [← hw2]
    clear hw2
    refine (HT.out _).mono ?_
    rintro e w1 ⟨⟨v, rfl⟩, rfl⟩
    have k2 : ∀ i, w1.cell? ⟨w.heap.size + 1 + 1, i, none⟩ = #[Value.slice none 0 0][i]? := fun i => HB2.out.cell i
    have f2 : ∀ i, w1.frozen? ⟨w.heap.size + 1 + 1, i, none⟩ = false := fun i => HB2.out.frozen i
    have hfin : ∀ u, Only (One (w.heap.size + 1 + 1)) w1 u → RStrsPost r p A c l w (.returned (.slice none 0 0)) u := fun u hS => by
      rw [HR1.out]
      exact ⟨none, 0, rfl, Nat.le_refl _, World.ownsRow_nil _ _ _ _, HR2.out.far HB2.out (sone_no _ _ _) (by omega) hS, HO2.out.any.trans hS (fun x hx => .inr (by unfold One at hx; omega))⟩
    have HF := Lib.hid hfin
    clear hfin
    go_wp2_with fail
    refine bodyPost_ret (v := .slice none 0 0) (by simp [results, Try.results37, go_sem, k2]) rfl ?_
    refine HF.out _ ?_
    (repeat' (first | with_reducible exact Only.refl _ _ | with_reducible refine Only.setCell ?_ (Or.inl ?_) _ | with_reducible refine Only.drewN ?_ _ | with_reducible refine Only.drew ?_ | with_reducible refine Only.alloc ?_ _ | (exact rfl)))

end Go.Proofs.Ytbhgaaendekghaa
