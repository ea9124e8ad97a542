/-
  The law StreamArrives: everything arrives.
  No conditions.
-/
import Derived.Test.YtfichoekjjcjiaaStL6
import Derived.Test.YtfichoekjjcjiaaStK9
namespace Go.Proofs.Ytfichoekjjcjiaa
open Go.ChangeShapes Go.WideShapes Go.ChangeAt Go.RowKit

theorem Rnd.zero {B : Nat} {x y : Sd} (h : Inv2 B 0 1 x y) : Rnd B 0 x y :=
  ⟨h, fun h => absurd h (by decide), fun h => absurd h (by decide), fun h => absurd h (by decide), fun h => absurd h (by decide), fun h => absurd h (by decide), fun h => absurd h (by decide), fun h => absurd h (by decide)⟩
theorem act_zero (w : World) : (zeroValue 70).run Try.prog w = .ok (.agg #[.int .u8 0, .int .u8 0, .int .u8 0, .slice none 0 0]) w := by kernel_rfl
theorem LS.cell {w : World} {B0 g k B : Nat} {x y : Sd} {sx sy : SC} (h : LS w B0 g k B x sx y sy) (i : Nat) : w.cell? ⟨g, i, none⟩ =
    #[Value.slice sx.l.Ao x.e.out.length sx.l.co, .int .i64 x.e.base, .bool x.e.closed, .bool x.e.done, .slice sx.l.Ai x.e.inn.length sx.l.ci, .int .i64 x.e.next, .bool x.e.ended, .bool x.e.due,
      .slice sy.l.Ao y.e.out.length sy.l.co, .int .i64 y.e.base, .bool y.e.closed, .bool y.e.done, .slice sy.l.Ai y.e.inn.length sy.l.ci, .int .i64 y.e.next, .bool y.e.ended, .bool y.e.due,
      .slice sx.P x.sent.length sx.c, .slice sy.P y.sent.length sy.c, .string ⟨x.wr.toArray⟩, .string ⟨y.wr.toArray⟩, .string ⟨x.rd.toArray⟩, .string ⟨y.rd.toArray⟩, .bool x.over, .bool y.over, .bool false][i]? := by
  have h1 := h.lk.box
  unfold larr at h1
  rw [if_pos rfl] at h1
  exact h1.cell i

namespace streamArrives
/-- Between two worlds the link stays whole. -/
structure At (w wr : World) (g k B : Nat) (x : Sd) (sx : SC) (y : Sd) (sy : SC) : Prop where
  ls : LS wr w.heap.size g k B x sx y sy
  only : Only Nil w wr
theorem At.act0 {w wr : World} {g k B : Nat} {x y : Sd} {sx sy : SC} (h : At w wr g k B x sx y sy) (hk : k ≤ 1000) (hB : B ≤ 12000) (kd sd : Int) (n kk : Nat) (hkd : 0 ≤ kd ∧ kd ≤ 255) (hkk : (kd % 6).toNat = kk) (hs : sd = 0) (hn8 : n ≤ 255) :
    Calls Try.prog 30 #[.pointer (some ⟨g, 0, none⟩), .agg #[.int .u8 kd, .int .u8 sd, .int .u8 (n : Int), .slice none 0 0]] wr fun e w' =>
      ∃ v, e = .returned v ∧ ∃ sx', At w w' g (k + 1) B (stepS kk n [] 0 x y).1 sx' y sy := by
  refine (h.ls.act0 (by omega) (by omega) h.only.size kd sd n kk hkd hkk hs hn8).mono ?_
  rintro e w' ⟨⟨v, hv⟩, ⟨sx', hL⟩, hO⟩
  exact ⟨v, hv, sx', hL, h.only.trans hO (fun x hx => .inr hx)⟩
theorem At.act1 {w wr : World} {g k B : Nat} {x y : Sd} {sx sy : SC} (h : At w wr g k B x sx y sy) (hk : k ≤ 1000) (hB : B ≤ 12000) (kd sd : Int) (n kk : Nat) (hkd : 0 ≤ kd ∧ kd ≤ 255) (hkk : (kd % 6).toNat = kk) (hs : sd = 1) (hn8 : n ≤ 255) :
    Calls Try.prog 30 #[.pointer (some ⟨g, 0, none⟩), .agg #[.int .u8 kd, .int .u8 sd, .int .u8 (n : Int), .slice none 0 0]] wr fun e w' =>
      ∃ v, e = .returned v ∧ ∃ sy', At w w' g (k + 1) B x sx (stepS kk n [] 1 y x).1 sy' := by
  refine (h.ls.act1 (by omega) (by omega) h.only.size kd sd n kk hkd hkk hs hn8).mono ?_
  rintro e w' ⟨⟨v, hv⟩, ⟨sy', hL⟩, hO⟩
  exact ⟨v, hv, sy', hL, h.only.trans hO (fun x hx => .inr hx)⟩

theorem At.tight {w wr : World} {g k k' B : Nat} {x y : Sd} {sx sy : SC} (h : At w wr g k B x sx y sy) (hx : x.sent.length ≤ k') (hy : y.sent.length ≤ k') : At w wr g k' B x sx y sy := ⟨h.ls.tight hx hy, h.only⟩

set_option maxRecDepth 100000 in
set_option maxHeartbeats 16000000 in
theorem walk (A : Option Addr) (len cap : Nat) (xs : List AcR) (shut : Bool) (w : World) (hlen : xs.length = len) (hmax : len ≤ maxLen) (hR : Rd w w.heap.size 4 A len (xs.flatMap AcR.cells)) (hB : ∀ s ∈ xs, s.ok w) :
    Calls Try.prog 9 #[.slice A len cap, .bool shut] w (LawPost w) := by
  unfold maxLen at hmax
  have HR := Lib.hid hR
  have HL := Lib.hid hlen
  have HB := Lib.hid hB
  obtain ⟨Z, hZ⟩ : ∃ Z, larr 0 zSd ⟨nowhere, none, 0, []⟩ zSd ⟨nowhere, none, 0, []⟩ false = Z := ⟨_, rfl⟩
  have hz : ∀ u, (zeroValue 68).run Try.prog u = .ok (.agg Z) u := fun u => by rw [← hZ]; exact link_zero u
  have hza := act_zero
  have HZ := Lib.hid hZ
  clear hR hlen hB hZ
  go_enter Try.func9, Try.ntmps9
  go_wp2_with fail
  refine (awake_any _).mono ?_
  rintro e w1 ⟨rfl, hO1⟩
  have HO1 := Lib.hid hO1
  clear hO1
  rcases Nat.lt_or_ge 60 len with h60 | h60
  · have h61 : (60 : Int) < len := by omega
    go_wp2_with fail
    go_ret
    exact ⟨rfl, HO1.out⟩
  have h61 : ¬ (60 : Int) < len := by omega
  have h62 : ¬ 60 < len := by omega
  go_upto_region 5 with fail
  go_cut [5] (fun v wd => ∃ g, v = .pointer (some ⟨g, 0, none⟩) ∧ LS wd w.heap.size g 0 0 zSd ⟨nowhere, none, 0, []⟩ zSd ⟨nowhere, none, 0, []⟩ ∧ Only Nil w wd)
  case first =>
    go_wp2_with fail
    go_meet
    case rel =>
      exact ⟨_, rfl, by rw [← HZ.out]; exact LS.zero w1 _ HO1.out.size, HO1.out.alloc _⟩
  case rest =>
  obtain ⟨g, rfl, hS, hO2⟩ := hcut
  have HS := Lib.hid hS
  have HO2 := Lib.hid hO2
  clear hS hO2 hz
  go_wp2_with fail
  go_loopw [20] (fun i wr => ∃ (k : Nat) (x y : Sd) (sx sy : SC), k ≤ len ∧ i = .int .i64 k ∧ LS wr w.heap.size g k (200 * k) x sx y sy ∧ Only Nil w wr) (fun i _ => len - (intOf i).toNat)
  case atStart => exact ⟨0, zSd, zSd, _, _, Nat.zero_le _, rfl, HS.out, HO2.out⟩
  case round =>
    obtain ⟨k, x, y, sx, sy, hk, rfl, hS, hO⟩ := hrel
    obtain ⟨w3, rfl⟩ : ∃ w3, w3 = wr := ⟨_, rfl⟩
    have HS := Lib.hid hS
    have HO := Lib.hid hO
    clear hS hO
    rcases Nat.lt_or_ge k len with hlt | hge
    · obtain ⟨s, hs⟩ : ∃ s, xs[k]? = some s := ⟨xs[k]'(by rw [HL.out]; exact hlt), List.getElem?_eq_getElem _⟩
      obtain ⟨b, off, rfl, hbw, hc⟩ := (HR.out.onlyNil HO.out (Nat.le_refl _)).row AcR.cells_len hs (by omega)
      obtain ⟨hkd, hsd, hn8, hbs⟩ := HB.out s (List.mem_of_getElem? hs)
      obtain ⟨kd, sd, nn, Ad, cd, d⟩ := s
      have c0 : w3.cell? ⟨b, off + k * 4, none⟩ = some (.int .u8 kd) := hc 0 _ rfl
      have c1 : w3.cell? ⟨b, off + k * 4 + 1, none⟩ = some (.int .u8 sd) := hc 1 _ rfl
      have c2 : w3.cell? ⟨b, off + k * 4 + 2, none⟩ = some (.int .u8 nn) := hc 2 _ rfl
      have c3 : w3.cell? ⟨b, off + k * 4 + 3, none⟩ = some (.slice Ad d.length cd) := hc 3 _ rfl
      have HKD := Lib.hid hkd
      have HSD := Lib.hid hsd
      have HN8 := Lib.hid hn8
      have HBS := Lib.hid hbs
      dsimp only at HKD HSD HN8 HBS
      clear hs hc hkd hsd hn8 hbs
      rcases Nat.lt_or_ge 200 d.length with h2 | h2
      · have h2' : (200 : Int) < d.length := by omega
        go_wp2_with fail
        go_ret
        exact ⟨rfl, HO.out.alloc _⟩
      · have h2' : ¬ (200 : Int) < d.length := by omega
        have h2n : ¬ 200 < d.length := by omega
        go_wp2_with fail
        have hO4 : Only Nil w (w3.alloc (.cells #[.int .u8 kd, .int .u8 sd, .int .u8 (nn : Int), .slice Ad d.length cd] 70)) := HO.out.alloc _
        refine ((HS.out.onlyNil ((Only.refl _ _).alloc _)).act (by omega) (by omega) hO4.size kd sd nn Ad cd d nn HKD.out HSD.out rfl HN8.out ((HBS.out.onlyNil hO4 (Nat.le_refl _)).up hO4.size) h2).mono ?_
        rintro e w5 ⟨⟨v, rfl⟩, ⟨x', sx', y', sy', hS'⟩, hO5⟩
        have HS5 := Lib.hid hS'
        have HO5 := Lib.hid (hO4.trans hO5 (fun x hx => .inr hx))
        clear hS' hO5 hO4 c0 c1 c2 c3
        go_wp2_with fail
        go_round
        case rel => exact ⟨k + 1, x', y', sx', sy', by omega, by go_num, HS5.out.more (Nat.le_refl _) (by omega), HO5.out⟩
        case measure => simp [intOf] <;> omega
    · have hkl : k = len := by omega
      subst hkl
      clear hge hk
      go_upto_if 32 with fail
      go_cut [] (fun wd => ∃ (x y : Sd) (sx sy : SC), At w wd g 62 12000 x sx y sy)
      case first =>
        have HA : Hid (At w w3 g 60 12000 x sx y sy) := Lib.hid ⟨HS.out.more h60 (by omega), HO.out⟩
        cases shut
        · go_wp2_with fail
          go_meet
          case rel => exact ⟨x, y, sx, sy, HA.out.ls.more (by omega) (Nat.le_refl _), HA.out.only⟩
        · go_wp2_with fail
          refine (HA.out.act0 (by omega) (Nat.le_refl _) 2 0 0 2 (by omega) rfl rfl (by omega)).mono ?_
          rintro e w4 ⟨v, rfl, sx4, hA4⟩
          have HA4 := Lib.hid hA4
          clear hA4
          go_wp2_with fail
          refine (HA4.out.act1 (by omega) (Nat.le_refl _) 2 1 0 2 (by omega) rfl rfl (by omega)).mono ?_
          rintro e w5 ⟨v, rfl, sy4, hA5⟩
          have HA5 := Lib.hid hA5
          clear hA5
          go_wp2_with fail
          go_meet
          case rel => exact ⟨_, _, _, _, HA5.out⟩
      case rest =>
      obtain ⟨x0, y0, sx0, sy0, hA0⟩ := hcut
      have HA0 := Lib.hid hA0
      clear hA0
      go_wp2_with fail
      go_loopw [8] (fun i wr => ∃ (n : Nat) (x y : Sd) (sx sy : SC), n ≤ 20 ∧ i = .int .i64 n ∧ At w wr g (62 + 2 * n) 12000 x sx y sy ∧ Rnd 12000 n x y) (fun i _ => 20 - (intOf i).toNat)
      case atStart => exact ⟨0, x0, y0, sx0, sy0, by omega, rfl, HA0.out, Rnd.zero HA0.out.ls.inv⟩
      case round =>
      obtain ⟨n, x, y, sx, sy, hn, rfl, hA, hRn⟩ := hrel
      obtain ⟨w4, rfl⟩ : ∃ w4, w4 = wr := ⟨_, rfl⟩
      have HAn := Lib.hid hA
      have HRn := Lib.hid hRn
      clear hA hRn
      rcases Nat.lt_or_ge n 20 with hlt | hge
      · have hni : (n : Int) < 20 := by omega
        go_wp2_with fail
        go_loopw [9] (fun i wr => ∃ (m : Nat) (x y : Sd) (sx sy : SC), m ≤ 2 ∧ i = .int .u8 m ∧ At w wr g (62 + 2 * n + m) 12000 x sx y sy ∧ Mid 12000 n m x y) (fun i _ => 2 - (intOf i).toNat)
        case atStart => exact ⟨0, x, y, sx, sy, by omega, rfl, HAn.out, HRn.out⟩
        case round =>
        obtain ⟨m, x, y, sx, sy, hm, rfl, hA, hRn⟩ := hrel
        obtain ⟨w4, rfl⟩ : ∃ w4, w4 = wr := ⟨_, rfl⟩
        have HA := Lib.hid hA
        have HM := Lib.hid hRn
        clear hA hRn
        obtain hm0 | hm1 | hm2 : m = 0 ∨ m = 1 ∨ m = 2 := by omega
        · subst hm0
          have hq0 : VE x.e := HA.out.ls.inv.vx
          have HV := Lib.hid hq0
          clear hq0
          obtain ⟨L, hL⟩ : ∃ L, x.sent.length = L := ⟨_, rfl⟩
          have hLk : L ≤ 200 := by have := HA.out.ls.sx; omega
          have HL2 := Lib.hid hL
          have HLK := Lib.hid hLk
          clear hL hLk
          obtain ⟨D, hD⟩ : ∃ D, (againE x.e).due = D := ⟨_, rfl⟩
          have HD := Lib.hid hD
          clear hD
          go_wp2_with fail
          refine (HA.out.act0 (by omega) (Nat.le_refl _) 5 0 0 5 (by omega) rfl rfl (by omega)).mono ?_
          rintro e w5 ⟨v, rfl, s5, hA5⟩
          have cd : w5.cell? ⟨g, 7, none⟩ = some (.bool D) := by
            rw [hA5.ls.cell 7]
            show some (Value.bool (againE x.e).due) = _
            rw [HD.out]
          have hA5' : At w w5 g _ 12000 { x with e := againE x.e } s5 y sy := hA5
          have HA5 := Lib.hid hA5'
          clear hA5 hA5'
          go_upto_if 57 with fail
          go_cut [] (fun wd => ∃ sx' sy', At w wd g (62 + 2 * n + (0 + 1)) 12000 (turnX 0 x) sx' (turnR 0 x y) sy')
          case first =>
            cases D
            · have hnd : ¬ (againE x.e).due = true := by rw [HD.out]; decide
              have HND := Lib.hid hnd
              clear hnd
              go_wp2_with fail
              go_meet
              case rel =>
                refine ⟨_, _, At.tight (sx := s5) (sy := sy) (k := 62 + 2 * n + 0 + 1) ?_ (by have := turnX_len 0 x; have := HA.out.ls.sx; omega) (by rw [turnR_len]; have := HA.out.ls.sy; omega)⟩
                rw [turnR_still HND.out, ← turnX_still HND.out]
                exact HA5.out
            · go_wp2_with fail
              refine (HA5.out.act0 (by omega) (Nat.le_refl _) 3 0 0 3 (by omega) rfl rfl (by omega)).mono ?_
              rintro e w6 ⟨v, rfl, s6, hA6⟩
              rw [turnX_send (.inl rfl) y HV.out HD.out] at hA6
              have hsl : (turnX 0 x).sent.length = L + 1 := by rw [turnX_sent HD.out, List.length_append, HL2.out]; rfl
              have cl : w6.cell? ⟨g, 16, none⟩ = some (.slice s6.P ((L + 1 : Nat) : Int).toNat s6.c) := by
                rw [hA6.ls.cell 16]
                show some (Value.slice s6.P (turnX 0 x).sent.length s6.c) = _
                rw [hsl]
                rfl
              have HA6 := Lib.hid hA6
              clear hA6 cd hsl
              go_wp2_with fail
              have hwl : wrap64 (L : Int) % 256 = (L : Int) := by rw [wrap64_fit _ (by have := HLK.out; omega)]; have := HLK.out; omega
              rw [hwl]
              refine (HA6.out.act1 (by omega) (Nat.le_refl _) 4 1 L 4 (by omega) rfl rfl (by have := HLK.out; omega)).mono ?_
              rintro e w7 ⟨v, rfl, s7, hA7⟩
              have hR : (stepS 4 L [] 1 y (turnX 0 x)).1 = turnR 0 x y := by rw [← HL2.out]; exact turnR_recv 1 HD.out []
              rw [hR] at hA7
              have HA7 := Lib.hid hA7
              clear hA7 hR hwl cl
              go_wp2_with fail
              go_meet
              case rel => exact ⟨_, _, HA7.out.tight (by have := turnX_len 0 x; have := HA.out.ls.sx; omega) (by rw [turnR_len]; have := HA.out.ls.sy; omega)⟩
          case rest =>
          obtain ⟨sx7, sy7, hA7⟩ := hcut
          have HA7 := Lib.hid hA7
          clear hA7 cd
          go_wp2_with fail
          refine (HA7.out.act1 (by omega) (Nat.le_refl _) 1 1 199 1 (by omega) rfl rfl (by omega)).mono ?_
          rintro e w8 ⟨v, rfl, s8, hA8⟩
          have hA8' : At w w8 g _ 12000 (turnX 0 x) sx7 (turnY 0 x y) s8 := hA8
          have HA8 := Lib.hid (hA8'.tight (k' := 62 + 2 * n + (0 + 1)) (by have := turnX_len 0 x; have := HA.out.ls.sx; omega) (by rw [turnY_len]; have := HA.out.ls.sy; omega))
          clear hA8 hA8'
          go_wp2_with fail
          go_round
          case rel => exact ⟨0 + 1, _, _, _, _, by omega, by first | rfl | go_num, HA8.out, HM.out.first⟩
          case measure => simp [intOf] <;> omega
        · subst hm1
          have hq0 : VE y.e := HA.out.ls.inv.vy
          have HV := Lib.hid hq0
          clear hq0
          obtain ⟨L, hL⟩ : ∃ L, y.sent.length = L := ⟨_, rfl⟩
          have hLk : L ≤ 200 := by have := HA.out.ls.sy; omega
          have HL2 := Lib.hid hL
          have HLK := Lib.hid hLk
          clear hL hLk
          obtain ⟨D, hD⟩ : ∃ D, (againE y.e).due = D := ⟨_, rfl⟩
          have HD := Lib.hid hD
          clear hD
          go_wp2_with fail
          refine (HA.out.act1 (by omega) (Nat.le_refl _) 5 1 0 5 (by omega) rfl rfl (by omega)).mono ?_
          rintro e w5 ⟨v, rfl, s5, hA5⟩
          have cd : w5.cell? ⟨g, 15, none⟩ = some (.bool D) := by
            rw [hA5.ls.cell 15]
            show some (Value.bool (againE y.e).due) = _
            rw [HD.out]
          have hA5' : At w w5 g _ 12000 x sx { y with e := againE y.e } s5 := hA5
          have HA5 := Lib.hid hA5'
          clear hA5 hA5'
          go_upto_if 57 with fail
          go_cut [] (fun wd => ∃ sx' sy', At w wd g (62 + 2 * n + (1 + 1)) 12000 (turnR 1 y x) sx' (turnX 1 y) sy')
          case first =>
            cases D
            · have hnd : ¬ (againE y.e).due = true := by rw [HD.out]; decide
              have HND := Lib.hid hnd
              clear hnd
              go_wp2_with fail
              go_meet
              case rel =>
                refine ⟨_, _, At.tight (sx := sx) (sy := s5) (k := 62 + 2 * n + 1 + 1) ?_ (by rw [turnR_len]; have := HA.out.ls.sx; omega) (by have := turnX_len 1 y; have := HA.out.ls.sy; omega)⟩
                rw [turnR_still HND.out, ← turnX_still HND.out]
                exact HA5.out
            · go_wp2_with fail
              refine (HA5.out.act1 (by omega) (Nat.le_refl _) 3 1 0 3 (by omega) rfl rfl (by omega)).mono ?_
              rintro e w6 ⟨v, rfl, s6, hA6⟩
              rw [turnX_send (.inr rfl) x HV.out HD.out] at hA6
              have hsl : (turnX 1 y).sent.length = L + 1 := by rw [turnX_sent HD.out, List.length_append, HL2.out]; rfl
              have cl : w6.cell? ⟨g, 17, none⟩ = some (.slice s6.P ((L + 1 : Nat) : Int).toNat s6.c) := by
                rw [hA6.ls.cell 17]
                show some (Value.slice s6.P (turnX 1 y).sent.length s6.c) = _
                rw [hsl]
                rfl
              have HA6 := Lib.hid hA6
              clear hA6 cd hsl
              go_wp2_with fail
              have hwl : wrap64 (L : Int) % 256 = (L : Int) := by rw [wrap64_fit _ (by have := HLK.out; omega)]; have := HLK.out; omega
              rw [hwl]
              refine (HA6.out.act0 (by omega) (Nat.le_refl _) 4 0 L 4 (by omega) rfl rfl (by have := HLK.out; omega)).mono ?_
              rintro e w7 ⟨v, rfl, s7, hA7⟩
              have hR : (stepS 4 L [] 0 x (turnX 1 y)).1 = turnR 1 y x := by rw [← HL2.out]; exact turnR_recv 0 HD.out []
              rw [hR] at hA7
              have HA7 := Lib.hid hA7
              clear hA7 hR hwl cl
              go_wp2_with fail
              go_meet
              case rel => exact ⟨_, _, HA7.out.tight (by rw [turnR_len]; have := HA.out.ls.sx; omega) (by have := turnX_len 1 y; have := HA.out.ls.sy; omega)⟩
          case rest =>
          obtain ⟨sx7, sy7, hA7⟩ := hcut
          have HA7 := Lib.hid hA7
          clear hA7 cd
          go_wp2_with fail
          refine (HA7.out.act0 (by omega) (Nat.le_refl _) 1 0 199 1 (by omega) rfl rfl (by omega)).mono ?_
          rintro e w8 ⟨v, rfl, s8, hA8⟩
          have hA8' : At w w8 g _ 12000 (turnY 1 y x) s8 (turnX 1 y) sy7 := hA8
          have HA8 := Lib.hid (hA8'.tight (k' := 62 + 2 * n + (1 + 1)) (by rw [turnY_len]; have := HA.out.ls.sx; omega) (by have := turnX_len 1 y; have := HA.out.ls.sy; omega))
          clear hA8 hA8'
          go_wp2_with fail
          go_round
          case rel => exact ⟨1 + 1, _, _, _, _, by omega, by first | rfl | go_num, HA8.out, HM.out.second (by omega)⟩
          case measure => simp [intOf] <;> omega
        · subst hm2
          go_wp2_with fail
          go_roundw
          case rel => exact ⟨n + 1, _, _, _, _, by omega, by first | rfl | go_num, HA.out.tight (by have := HA.out.ls.sx; omega) (by have := HA.out.ls.sy; omega), HM.out⟩
          case measure => simp [intOf] <;> omega
      · have hn20 : n = 20 := by omega
        subst hn20
        have HF := Lib.hid (HRn.out.fin (by omega))
        obtain ⟨L0, hL0⟩ : ∃ L, x.sent.length = L := ⟨_, rfl⟩
        obtain ⟨L1, hL1⟩ : ∃ L, y.sent.length = L := ⟨_, rfl⟩
        have h0 : L0 ≤ 102 := by have := HAn.out.ls.sx; omega
        have h1 : L1 ≤ 102 := by have := HAn.out.ls.sy; omega
        have c16 : w4.cell? ⟨g, 16, none⟩ = some (.slice sx.P L0 sx.c) := by rw [HAn.out.ls.cell 16, ← hL0]; rfl
        have c17 : w4.cell? ⟨g, 17, none⟩ = some (.slice sy.P L1 sy.c) := by rw [HAn.out.ls.cell 17, ← hL1]; rfl
        have q0 : ¬ (250 : Int) < L0 := by omega
        have q1 : ¬ (250 : Int) < L1 := by omega
        have p0 : ¬ 250 < L0 := by omega
        have p1 : ¬ 250 < L1 := by omega
        clear hL0 hL1 h0 h1
        go_wp2_with fail
        clear c16 c17 q0 q1 p0 p1
        go_loopw [10] (fun i wx => ∃ j : Nat, j ≤ 2 ∧ i = .int .i64 j ∧ Only Nil w4 wx) (fun i _ => 2 - (intOf i).toNat)
        case atStart => exact ⟨0, by omega, rfl, by (repeat' (first | with_reducible exact Only.refl _ _ | with_reducible refine Only.setCell ?_ (Or.inl ?_) _ | with_reducible refine Only.drewN ?_ _ | with_reducible refine Only.drew ?_ | with_reducible refine Only.alloc ?_ _ | (fail)))⟩
        case round =>
        obtain ⟨j, hj, rfl, hO⟩ := hrel
        obtain ⟨w5, rfl⟩ : ∃ w5, w5 = wr := ⟨_, rfl⟩
        have HO5 := Lib.hid hO
        have HL5 := Lib.hid (HAn.out.ls.onlyNil hO)
        have kb := HL5.out.cell
        clear hO
        obtain ⟨Cx, hCx⟩ : ∃ c, x.e.closed = c := ⟨_, rfl⟩
        obtain ⟨Cy, hCy⟩ : ∃ c, y.e.closed = c := ⟨_, rfl⟩
        obtain ⟨WX, hWX⟩ : ∃ c, x.wr = c := ⟨_, rfl⟩
        obtain ⟨WY, hWY⟩ : ∃ c, y.wr = c := ⟨_, rfl⟩
        obtain ⟨RX, hRX⟩ : ∃ c, x.rd = c := ⟨_, rfl⟩
        obtain ⟨RY, hRY⟩ : ∃ c, y.rd = c := ⟨_, rfl⟩
        have hq0 := fun u => quiet_any sx.l x.e u
        have hq1 := fun u => quiet_any sy.l y.e u
        unfold ecells at hq0 hq1
        rw [hCx] at hq0
        rw [hCy] at hq1
        rw [hCx, hCy, hWX, hWY, hRX, hRY] at kb
        have hff := HF.out
        rw [hCx, hCy, hWX, hWY, hRX, hRY] at hff
        obtain ⟨f1, f2, f3⟩ := hff
        have HQ0 := Lib.hid hq0
        have HQ1 := Lib.hid hq1
        have F1 := Lib.hid f1
        have F2 := Lib.hid f2
        have F3 := Lib.hid f3
        clear hCx hCy hWX hWY hRX hRY hq0 hq1 f1 f2 f3
        obtain hj0 | hj1 | hj2 : j = 0 ∨ j = 1 ∨ j = 2 := by omega
        · subst hj0
          clear hj
          cases Cx <;> cases Cy
          · skip
            obtain rfl := F1.out rfl
            go_wp2_with fail
            go_big_quiet (fail)
            go_wp2_with fail
            go_roundw
            case rel => exact ⟨1, by omega, by first | rfl | go_num, by first | exact HO5.out.drewN _ | (repeat' (first | with_reducible exact Only.refl _ _ | with_reducible refine Only.setCell ?_ (Or.inl ?_) _ | with_reducible refine Only.drewN ?_ _ | with_reducible refine Only.drew ?_ | with_reducible refine Only.alloc ?_ _ | (exact HO5.out))) | (refine Only.thenNil ?_ HO6.out; (repeat' (first | with_reducible exact Only.refl _ _ | with_reducible refine Only.setCell ?_ (Or.inl ?_) _ | with_reducible refine Only.drewN ?_ _ | with_reducible refine Only.drew ?_ | with_reducible refine Only.alloc ?_ _ | (exact HO5.out))))⟩
            case measure => simp [intOf] <;> omega
          · skip
            obtain rfl := F1.out rfl
            go_wp2_with fail
            go_big_quiet (fail)
            go_wp2_with fail
            go_roundw
            case rel => exact ⟨1, by omega, by first | rfl | go_num, by first | exact HO5.out.drewN _ | (repeat' (first | with_reducible exact Only.refl _ _ | with_reducible refine Only.setCell ?_ (Or.inl ?_) _ | with_reducible refine Only.drewN ?_ _ | with_reducible refine Only.drew ?_ | with_reducible refine Only.alloc ?_ _ | (exact HO5.out))) | (refine Only.thenNil ?_ HO6.out; (repeat' (first | with_reducible exact Only.refl _ _ | with_reducible refine Only.setCell ?_ (Or.inl ?_) _ | with_reducible refine Only.drewN ?_ _ | with_reducible refine Only.drew ?_ | with_reducible refine Only.alloc ?_ _ | (exact HO5.out))))⟩
            case measure => simp [intOf] <;> omega
          · skip
            go_wp2_with fail
            go_big_quiet (fail)
            go_wp2_with fail
            go_roundw
            case rel => exact ⟨1, by omega, by first | rfl | go_num, by first | exact HO5.out.drewN _ | (repeat' (first | with_reducible exact Only.refl _ _ | with_reducible refine Only.setCell ?_ (Or.inl ?_) _ | with_reducible refine Only.drewN ?_ _ | with_reducible refine Only.drew ?_ | with_reducible refine Only.alloc ?_ _ | (exact HO5.out))) | (refine Only.thenNil ?_ HO6.out; (repeat' (first | with_reducible exact Only.refl _ _ | with_reducible refine Only.setCell ?_ (Or.inl ?_) _ | with_reducible refine Only.drewN ?_ _ | with_reducible refine Only.drew ?_ | with_reducible refine Only.alloc ?_ _ | (exact HO5.out))))⟩
            case measure => simp [intOf] <;> omega
          · skip
            have HQQ := Lib.hid (F3.out rfl rfl)
            go_wp2_with fail
            go_big_quiet (fail)
            go_wp2_with fail
            refine (HQ0.out _).mono ?_
            rintro e w6 ⟨rfl, hO6⟩
            rw [HQQ.out.1]
            have HO6 := Lib.hid hO6
            clear hO6
            go_wp2_with fail
            go_roundw
            case rel => exact ⟨1, by omega, by first | rfl | go_num, by first | exact (HO5.out.drewN _).thenNil HO6.out | (repeat' (first | with_reducible exact Only.refl _ _ | with_reducible refine Only.setCell ?_ (Or.inl ?_) _ | with_reducible refine Only.drewN ?_ _ | with_reducible refine Only.drew ?_ | with_reducible refine Only.alloc ?_ _ | (exact HO5.out))) | (refine Only.thenNil ?_ HO6.out; (repeat' (first | with_reducible exact Only.refl _ _ | with_reducible refine Only.setCell ?_ (Or.inl ?_) _ | with_reducible refine Only.drewN ?_ _ | with_reducible refine Only.drew ?_ | with_reducible refine Only.alloc ?_ _ | (exact HO5.out))))⟩
            case measure => simp [intOf] <;> omega
        · subst hj1
          clear hj
          cases Cx <;> cases Cy
          · skip
            obtain rfl := F2.out rfl
            go_wp2_with fail
            go_big_quiet (fail)
            go_wp2_with fail
            go_roundw
            case rel => exact ⟨2, by omega, by first | rfl | go_num, by first | exact HO5.out.drewN _ | (repeat' (first | with_reducible exact Only.refl _ _ | with_reducible refine Only.setCell ?_ (Or.inl ?_) _ | with_reducible refine Only.drewN ?_ _ | with_reducible refine Only.drew ?_ | with_reducible refine Only.alloc ?_ _ | (exact HO5.out))) | (refine Only.thenNil ?_ HO6.out; (repeat' (first | with_reducible exact Only.refl _ _ | with_reducible refine Only.setCell ?_ (Or.inl ?_) _ | with_reducible refine Only.drewN ?_ _ | with_reducible refine Only.drew ?_ | with_reducible refine Only.alloc ?_ _ | (exact HO5.out))))⟩
            case measure => simp [intOf] <;> omega
          · skip
            go_wp2_with fail
            go_big_quiet (fail)
            go_wp2_with fail
            go_roundw
            case rel => exact ⟨2, by omega, by first | rfl | go_num, by first | exact HO5.out.drewN _ | (repeat' (first | with_reducible exact Only.refl _ _ | with_reducible refine Only.setCell ?_ (Or.inl ?_) _ | with_reducible refine Only.drewN ?_ _ | with_reducible refine Only.drew ?_ | with_reducible refine Only.alloc ?_ _ | (exact HO5.out))) | (refine Only.thenNil ?_ HO6.out; (repeat' (first | with_reducible exact Only.refl _ _ | with_reducible refine Only.setCell ?_ (Or.inl ?_) _ | with_reducible refine Only.drewN ?_ _ | with_reducible refine Only.drew ?_ | with_reducible refine Only.alloc ?_ _ | (exact HO5.out))))⟩
            case measure => simp [intOf] <;> omega
          · skip
            obtain rfl := F2.out rfl
            go_wp2_with fail
            go_big_quiet (fail)
            go_wp2_with fail
            go_roundw
            case rel => exact ⟨2, by omega, by first | rfl | go_num, by first | exact HO5.out.drewN _ | (repeat' (first | with_reducible exact Only.refl _ _ | with_reducible refine Only.setCell ?_ (Or.inl ?_) _ | with_reducible refine Only.drewN ?_ _ | with_reducible refine Only.drew ?_ | with_reducible refine Only.alloc ?_ _ | (exact HO5.out))) | (refine Only.thenNil ?_ HO6.out; (repeat' (first | with_reducible exact Only.refl _ _ | with_reducible refine Only.setCell ?_ (Or.inl ?_) _ | with_reducible refine Only.drewN ?_ _ | with_reducible refine Only.drew ?_ | with_reducible refine Only.alloc ?_ _ | (exact HO5.out))))⟩
            case measure => simp [intOf] <;> omega
          · skip
            have HQQ := Lib.hid (F3.out rfl rfl)
            go_wp2_with fail
            go_big_quiet (fail)
            go_wp2_with fail
            refine (HQ1.out _).mono ?_
            rintro e w6 ⟨rfl, hO6⟩
            rw [HQQ.out.2]
            have HO6 := Lib.hid hO6
            clear hO6
            go_wp2_with fail
            go_roundw
            case rel => exact ⟨2, by omega, by first | rfl | go_num, by first | exact (HO5.out.drewN _).thenNil HO6.out | (repeat' (first | with_reducible exact Only.refl _ _ | with_reducible refine Only.setCell ?_ (Or.inl ?_) _ | with_reducible refine Only.drewN ?_ _ | with_reducible refine Only.drew ?_ | with_reducible refine Only.alloc ?_ _ | (exact HO5.out))) | (refine Only.thenNil ?_ HO6.out; (repeat' (first | with_reducible exact Only.refl _ _ | with_reducible refine Only.setCell ?_ (Or.inl ?_) _ | with_reducible refine Only.drewN ?_ _ | with_reducible refine Only.drew ?_ | with_reducible refine Only.alloc ?_ _ | (exact HO5.out))))⟩
            case measure => simp [intOf] <;> omega
        · subst hj2
          clear hj kb
          go_wp2_with fail
          refine (agree_any _ g x y sx sy _ HL5.out.lk HL5.out.inv.xy.agree HL5.out.inv.yx.agree).mono ?_
          rintro e w6 ⟨rfl, hO6⟩
          have HO6 := Lib.hid hO6
          clear hO6
          go_wp2_with fail
          go_ret
          exact ⟨rfl, HAn.out.only.thenNil (HO5.out.thenNil HO6.out)⟩

set_option maxRecDepth 100000 in
theorem from_args {H : Type} {enc : TypeId × Value → H} (W : World) (base : Nat) (args : Array Value) (ds : List (DataW H)) (ps : List MemPlace)
    (hval0 : ∀ (j : Nat) t v, Try.f9.params[j]? = some t → args[j]? = some v → Value.okWide Try.prog W .any base t v)
    (hA : DataW.TrodAll enc Try.prog W 0 (fun _ => true) true Try.f9.params.toList args.toList ds ps) (_hlt : ∀ x ∈ ps, x.block < W.heap.size)
    (hsz : (DataW.weightsEach Try.prog Try.f9.params.toList ds).all (· ≤ reachBytes) = true) : Calls Try.prog 9 args W (LawPost W) := by
  have hval := hval0
  rw [Try.params9] at hA hval hsz
  obtain ⟨v0, vs0, d0, ds0, p0, q0, hargs, rfl, rfl, h0, r0⟩ := trodAll_cons hA
  obtain ⟨v1, vs1, d1, ds1, p1, q1, rfl, rfl, rfl, h1, r1⟩ := trodAll_cons r0
  obtain ⟨rfl, rfl, rfl⟩ := trodAll_nil r1
  obtain rfl : args = #[v0, v1] := by cases args; simp_all
  obtain ⟨A, len, cap, xs, rfl, hl, hm, hR, hB⟩ := open_acts (hval 0 _ v0 rfl rfl) h0
  obtain ⟨b, rfl⟩ := okWide_bool Try.underlying4 (hval 1 _ v1 rfl rfl)
  exact walk A len cap xs b W hl hm hR hB

set_option maxRecDepth 100000 in
theorem over : Rows.streamArrivesRow.holds Try.pinned (OpenSpec.ofChange Rows.streamArrivesSpec) :=
  OpenClaim.holds_of_wide 9 Try.f9 rfl rfl rfl rfl rfl rfl rfl ⟨rfl, rfl, rfl, rfl, rfl⟩ rfl rfl rfl rfl rfl (by kernel_rfl) Try.func9 (by kernel_rfl)
    (of_decide_eq_true (by kernel_rfl)) (by unfold Func.isWrapper; first | (rw [if_pos (by decide +kernel)]; kernel_rfl) | (rw [if_neg (by decide +kernel)]; exact ⟨rfl, rfl⟩))
    (fun os started H enc _ => law_lifted (f := 9) (F := Try.f9) (s := Rows.streamArrivesSpec) os started H enc (by kernel_rfl) Try.func9 rfl rfl (by kernel_rfl) (by kernel_rfl)
      (fun ds hd => by match ds, hd with | [_, _], _ => rfl)
      (ChangeSpec.witness6 (enc := enc) (C := Try.checked) false ⟨#[], #[.slice none 0 0, .bool false], []⟩ 8 (by kernel_rfl) (by kernel_rfl) (by kernel_rfl) (by kernel_rfl))
      (fun W base args ds ps hv hA hlt hsz => from_args W base args ds ps hv hA hlt hsz))

/-- The statement. -/
theorem proved : Rows.StreamArrivesSaid := over

end streamArrives
end Go.Proofs.Ytfichoekjjcjiaa
