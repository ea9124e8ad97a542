/-
  The example that every statement of layer 43 checks first: it holds. Boxes of ends and packets.
  No conditions.
-/
import Derived.Test.YtfichoekjjcjiaaInv
import Derived.Test.YtfichoekjjcjiaaStW6
import Derived.Test.YtfichoekjjcjiaaStW8
import Derived.Test.YtfichoekjjcjiaaRow
namespace Go.Proofs.Ytfichoekjjcjiaa
open Go.RowKit

theorem EB.box {w w' : World} {B g : Nat} {l : Loc} {e : E} {t : TypeId} {cs : Array Value} (h : EB w B l e) (hg : Blk w g t cs) (hcs : NoU8 cs) (hO : Only (One g) w w') (hB : B ≤ w.heap.size) : EB w' B l e :=
  ⟨h.out.box hg hcs hO hB, h.inn.box hg hcs hO hB, h.co, h.ci⟩
theorem PB.box {w w' : World} {B g c : Nat} {A : Option Addr} {p : Pk} {t : TypeId} {cs : Array Value} (h : PB w B A c p) (hg : Blk w g t cs) (hcs : NoU8 cs) (hO : Only (One g) w w') (hB : B ≤ w.heap.size) : PB w' B A c p :=
  ⟨h.data.box hg hcs hO hB, h.c⟩

def earr (l : Loc) (e : E) : Array Value := #[.slice l.Ao e.out.length l.co, .int .i64 e.base, .bool e.closed, .bool e.done, .slice l.Ai e.inn.length l.ci, .int .i64 e.next, .bool e.ended, .bool e.due]
def parr (A : Option Addr) (c : Nat) (p : Pk) : Array Value := #[.int .i64 p.pair, .int .i64 p.side, .int .i64 p.seq, .int .i64 p.ack, .bool p.fin, .slice A p.data.length c]
theorem earr_no (l : Loc) (e : E) : NoU8 (earr l e) := by
  intro i z h
  match i, h with
  | 0, h => injection h with h; cases h
  | 1, h => injection h with h; cases h
  | 2, h => injection h with h; cases h
  | 3, h => injection h with h; cases h
  | 4, h => injection h with h; cases h
  | 5, h => injection h with h; cases h
  | 6, h => injection h with h; cases h
  | 7, h => injection h with h; cases h
  | n + 8, h => rw [Array.getElem?_eq_none (by show 8 ≤ n + 8; omega)] at h; cases h
theorem parr_no (A : Option Addr) (c : Nat) (p : Pk) : NoU8 (parr A c p) := by
  intro i z h
  match i, h with
  | 0, h => injection h with h; cases h
  | 1, h => injection h with h; cases h
  | 2, h => injection h with h; cases h
  | 3, h => injection h with h; cases h
  | 4, h => injection h with h; cases h
  | 5, h => injection h with h; cases h
  | n + 6, h => rw [Array.getElem?_eq_none (by show 6 ≤ n + 6; omega)] at h; cases h

/-- Box g holds the end e. -/
def EBox (t : TypeId) (wc : World) (g : Nat) (e : E) : Prop := ∃ l, Blk wc g t (earr l e) ∧ EB wc wc.heap.size l e
/-- Box g holds the packet p. -/
def PBox (t : TypeId) (wc : World) (g : Nat) (p : Pk) : Prop := ∃ A c, Blk wc g t (parr A c p) ∧ PB wc wc.heap.size A c p
section
variable {w w' : World} {g g' : Nat} {e e' : E} {p : Pk} {t t' : TypeId} {cs : Array Value}
theorem EBox.onlyNil (h : EBox t w g e) (hO : Only Nil w w') : EBox t w' g e := by
  obtain ⟨l, h1, h2⟩ := h
  exact ⟨l, h1.onlyNil hO, h2.next hO⟩
theorem PBox.onlyNil (h : PBox t w g p) (hO : Only Nil w w') : PBox t w' g p := by
  obtain ⟨A, c, h1, h2⟩ := h
  exact ⟨A, c, h1.onlyNil hO, h2.next hO⟩
theorem EBox.far (h : EBox t w g e) (hg : Blk w g' t' cs) (hcs : NoU8 cs) (hne : g ≠ g') (hO : Only (One g') w w') : EBox t w' g e := by
  obtain ⟨l, h1, h2⟩ := h
  exact ⟨l, h1.only hO (fun hx => hne hx), (h2.box hg hcs hO (Nat.le_refl _)).up hO.size⟩
theorem PBox.far (h : PBox t w g p) (hg : Blk w g' t' cs) (hcs : NoU8 cs) (hne : g ≠ g') (hO : Only (One g') w w') : PBox t w' g p := by
  obtain ⟨A, c, h1, h2⟩ := h
  exact ⟨A, c, h1.only hO (fun hx => hne hx), ⟨(h2.data.box hg hcs hO (Nat.le_refl _)).up hO.size, h2.c⟩⟩
theorem EBox.lt (h : EBox t w g e) : g < w.heap.size := by
  obtain ⟨l, h1, _⟩ := h
  exact h1.lt
theorem PBox.lt (h : PBox t w g p) : g < w.heap.size := by
  obtain ⟨A, c, h1, _⟩ := h
  exact h1.lt
end

theorem EBox.new {w : World} {l : Loc} {e : E} (t : TypeId) (h : EB w w.heap.size l e) : EBox t (w.alloc (.cells (earr l e) t)) w.heap.size e :=
  ⟨l, Blk.new w t _, h.next ((Only.refl _ _).alloc _)⟩
theorem PBox.new {w : World} {A : Option Addr} {c : Nat} {p : Pk} (t : TypeId) (h : PB w w.heap.size A c p) : PBox t (w.alloc (.cells (parr A c p) t)) w.heap.size p :=
  ⟨A, c, Blk.new w t _, h.next ((Only.refl _ _).alloc _)⟩
/-- The world behind the store of an end into its box. -/
def put8 (w : World) (g : Nat) (l : Loc) (e : E) : World :=
  ((((((((w.setCell ⟨g, 0, none⟩ (.slice l.Ao e.out.length l.co)).setCell ⟨g, 1, none⟩ (.int .i64 e.base)).setCell ⟨g, 2, none⟩ (.bool e.closed)).setCell ⟨g, 3, none⟩ (.bool e.done)).setCell ⟨g, 4, none⟩ (.slice l.Ai e.inn.length l.ci)).setCell ⟨g, 5, none⟩ (.int .i64 e.next)).setCell ⟨g, 6, none⟩ (.bool e.ended)).setCell ⟨g, 7, none⟩ (.bool e.due))
theorem put8_only (w : World) (g : Nat) (l : Loc) (e : E) : Only (One g) w (put8 w g l e) := by
  unfold put8
  (repeat' (first | with_reducible exact Only.refl _ _ | with_reducible refine Only.setCell ?_ (Or.inl ?_) _ | with_reducible refine Only.drewN ?_ _ | with_reducible refine Only.drew ?_ | with_reducible refine Only.alloc ?_ _ | (exact rfl)))
theorem EBox.put {w : World} {g : Nat} {l : Loc} {e e0 : E} {t : TypeId} (h0 : EBox t w g e0) (h : EB w w.heap.size l e) : EBox t (put8 w g l e) g e := by
  obtain ⟨l0, hb, _⟩ := h0
  exact ⟨l, Blk.all8 hb rfl _ _ _ _ _ _ _ _, (h.box hb (earr_no _ _) (put8_only w g l e) (Nat.le_refl _)).up (put8_only w g l e).size⟩
theorem EBox.put_far {w : World} {g g' : Nat} {l : Loc} {e e0 e1 : E} {t t' : TypeId} (h0 : EBox t w g e0) (h : EBox t' w g' e1) (hne : g' ≠ g) : EBox t' (put8 w g l e) g' e1 := by
  obtain ⟨l0, hb, _⟩ := h0
  exact h.far hb (earr_no _ _) hne (put8_only w g l e)
theorem PBox.put_far {w : World} {g g' : Nat} {l : Loc} {e e0 : E} {p : Pk} {t t' : TypeId} (h0 : EBox t w g e0) (h : PBox t' w g' p) (hne : g' ≠ g) : PBox t' (put8 w g l e) g' p := by
  obtain ⟨l0, hb, _⟩ := h0
  exact h.far hb (earr_no _ _) hne (put8_only w g l e)
theorem EBox.put_EB {w : World} {g : Nat} {l l' : Loc} {e e0 e1 : E} {t : TypeId} (h0 : EBox t w g e0) (h : EB w w.heap.size l' e1) : EB (put8 w g l e) (put8 w g l e).heap.size l' e1 := by
  obtain ⟨l0, hb, _⟩ := h0
  exact (h.box hb (earr_no _ _) (put8_only w g l e) (Nat.le_refl _)).up (put8_only w g l e).size
theorem EBox.put_PB {w : World} {g c : Nat} {l : Loc} {A : Option Addr} {e e0 : E} {p : Pk} {t : TypeId} (h0 : EBox t w g e0) (h : PB w w.heap.size A c p) : PB (put8 w g l e) (put8 w g l e).heap.size A c p := by
  obtain ⟨l0, hb, _⟩ := h0
  exact ⟨((h.data.box hb (earr_no _ _) (put8_only w g l e) (Nat.le_refl _)).up (put8_only w g l e).size), h.c⟩

/-- The world behind the store of a packet into its box. -/
def put6 (w : World) (g : Nat) (A : Option Addr) (c : Nat) (p : Pk) : World :=
  ((((((w.setCell ⟨g, 0, none⟩ (.int .i64 p.pair)).setCell ⟨g, 1, none⟩ (.int .i64 p.side)).setCell ⟨g, 2, none⟩ (.int .i64 p.seq)).setCell ⟨g, 3, none⟩ (.int .i64 p.ack)).setCell ⟨g, 4, none⟩ (.bool p.fin)).setCell ⟨g, 5, none⟩ (.slice A p.data.length c))
theorem put6_only (w : World) (g : Nat) (A : Option Addr) (c : Nat) (p : Pk) : Only (One g) w (put6 w g A c p) := by
  unfold put6
  (repeat' (first | with_reducible exact Only.refl _ _ | with_reducible refine Only.setCell ?_ (Or.inl ?_) _ | with_reducible refine Only.drewN ?_ _ | with_reducible refine Only.drew ?_ | with_reducible refine Only.alloc ?_ _ | (exact rfl)))
theorem PBox.put {w : World} {g c : Nat} {A : Option Addr} {p p0 : Pk} {t : TypeId} (h0 : PBox t w g p0) (h : PB w w.heap.size A c p) : PBox t (put6 w g A c p) g p := by
  obtain ⟨A0, c0, hb, _⟩ := h0
  exact ⟨A, c, (((((hb.set_ 0 _).set_ 1 _).set_ 2 _).set_ 3 _).set_ 4 _).set_ 5 _, ⟨((h.data.box hb (parr_no _ _ _) (put6_only w g A c p) (Nat.le_refl _)).up (put6_only w g A c p).size), h.c⟩⟩
theorem EBox.putp_far {w : World} {g g' c : Nat} {A : Option Addr} {p p0 : Pk} {e : E} {t t' : TypeId} (h0 : PBox t w g p0) (h : EBox t' w g' e) (hne : g' ≠ g) : EBox t' (put6 w g A c p) g' e := by
  obtain ⟨A0, c0, hb, _⟩ := h0
  exact h.far hb (parr_no _ _ _) hne (put6_only w g A c p)
theorem PBox.putp_far {w : World} {g g' c : Nat} {A : Option Addr} {p p0 p1 : Pk} {t t' : TypeId} (h0 : PBox t w g p0) (h : PBox t' w g' p1) (hne : g' ≠ g) : PBox t' (put6 w g A c p) g' p1 := by
  obtain ⟨A0, c0, hb, _⟩ := h0
  exact h.far hb (parr_no _ _ _) hne (put6_only w g A c p)

/-- 'a, p, e := Send(a, ..)': a new box for the packet, the end's box written. -/
structure SPut (te tp : TypeId) (w2 w4 : World) (a : Nat) (e : E) (p : Pk) : Prop where
  ea : EBox te w4 a e
  pb : PBox tp w4 w2.heap.size p
  only : Only (One a) w2 w4
  eo : ∀ t g e', EBox t w2 g e' → g ≠ a → EBox t w4 g e'
  po : ∀ t g p', PBox t w2 g p' → g ≠ a → PBox t w4 g p'
theorem SPut.mk_ {te tp : TypeId} {w2 : World} {a c : Nat} {e e0 : E} {p : Pk} {l : Loc} {A : Option Addr} (hA : EBox te w2 a e0) (hE : EB w2 w2.heap.size l e) (hP : PB w2 w2.heap.size A c p) :
    SPut te tp w2 (put6 (put8 (w2.alloc (.cells (parr none 0 zP) tp)) a l e) w2.heap.size A c p) a e p := by
  have hO3 : Only Nil w2 (w2.alloc (.cells (parr none 0 zP) tp)) := (Only.refl _ _).alloc _
  have hlt := hA.lt
  have hA3 := hA.onlyNil hO3
  have hP3 : PBox tp (w2.alloc (.cells (parr none 0 zP) tp)) w2.heap.size zP := PBox.new tp (PB.zero _ _)
  have hA4 : EBox te (put8 (w2.alloc (.cells (parr none 0 zP) tp)) a l e) a e := hA3.put (hE.next hO3)
  have hP4 : PBox tp (put8 (w2.alloc (.cells (parr none 0 zP) tp)) a l e) w2.heap.size zP := PBox.put_far hA3 hP3 (by omega)
  refine ⟨EBox.putp_far hP4 hA4 (by omega), hP4.put (hA3.put_PB (hP.next hO3)), ?_, fun t g e' h hne => ?_, fun t g p' h hne => ?_⟩
  · exact (hO3.any.then_ (put8_only _ _ _ _)).trans (put6_only _ _ _ _ _) (fun x hx => .inr (Nat.le_of_eq hx.symm))
  · exact EBox.putp_far hP4 (EBox.put_far hA3 (h.onlyNil hO3) hne) (by have := h.lt; omega)
  · exact PBox.putp_far hP4 (PBox.put_far hA3 (h.onlyNil hO3) hne) (by have := h.lt; omega)

theorem awake1 : writeE zE [97, 98] = (⟨[97, 98], 0, false, false, [], 0, false, true⟩, 0) := by rfl
theorem awake2 : sendE ⟨[97, 98], 0, false, false, [], 0, false, true⟩ 1 0 = (⟨[97, 98], 0, false, false, [], 0, false, false⟩, ⟨1, 0, 0, 0, false, [97, 98]⟩, 0) := by rfl
theorem awake3 : recvE zE ⟨1, 0, 0, 0, false, [97, 98]⟩ = (⟨[], 0, false, false, [97, 98], 2, false, true⟩, 0) := by rfl
theorem awake4 : sendE ⟨[], 0, false, false, [97, 98], 2, false, true⟩ 1 1 = (⟨[], 0, false, false, [97, 98], 2, false, false⟩, ⟨1, 1, 0, 2, false, []⟩, 0) := by rfl
theorem awake5 : recvE ⟨[97, 98], 0, false, false, [], 0, false, false⟩ ⟨1, 1, 0, 2, false, []⟩ = (⟨[], 2, false, false, [], 0, false, false⟩, 0) := by rfl

set_option maxRecDepth 100000 in
set_option maxHeartbeats 4000000 in
theorem awake_any (w : World) : Calls Try.prog 10 #[] w (LawPost w) := by
  have E1 := Lib.hid awake1
  have E2 := Lib.hid awake2
  have E3 := Lib.hid awake3
  have E4 := Lib.hid awake4
  have E5 := Lib.hid awake5
  have kc := fun (w : World) (C : Array Value) (n c : Nat) => Lib.run_convert_bytes_const (P := Try.prog) w 22 5 C n c Try.underlying22 Try.underlying5
  go_enter Try.func10, Try.ntmps10
  go_upto_region 1 with fail
  go_cut [1, 2] (fun pa v wc => ∃ a, pa = .pointer (some ⟨a, 0, none⟩) ∧ v = .int .i64 0 ∧ EBox 29 wc a ⟨[97, 98], 0, false, false, [], 0, false, true⟩ ∧ w.heap.size ≤ a ∧ Only Nil w wc)
  case first =>
    go_wp2_with fail
    have hB1 := Bs.marked w [97, 98] 5 (2, 3) _ rfl
    refine (write_any nowhere zE _ 2 [97, 98] _ (EB.zero _ _) hB1 (by decide)).mono ?_
    rw [E1.out]
    rintro x w1 ⟨l1, rfl, hE1, hO1⟩
    go_wp2_with fail
    go_meet
    case rel =>
      exact ⟨w1.heap.size, rfl, rfl, EBox.new _ hE1, by have := hO1.size; rw [World.size_alloc] at this; omega, ((((Only.refl _ _).alloc _).thenNil hO1).alloc _)⟩
  case rest =>
    obtain ⟨a, rfl, rfl, hEa, hga, hOa⟩ := hcut
    obtain ⟨la, hba, hla⟩ := hEa
    have ka : ∀ i, wc.cell? ⟨a, i, none⟩ = #[Value.slice la.Ao 2 la.co, .int .i64 0, .bool false, .bool false, .slice la.Ai 0 la.ci, .int .i64 0, .bool false, .bool true][i]? := fun i => hba.cell i
    have HOA := Lib.hid hOa
    have HBA := Lib.hid hba
    have HLA := Lib.hid hla
    clear hOa hba hla
    go_upto_region 2 with fail
    go_cut [1, 3, 4] (fun pa pp v wd => ∃ p, pa = .pointer (some ⟨a, 0, none⟩) ∧ pp = .pointer (some ⟨p, 0, none⟩) ∧ v = .int .i64 0 ∧ a < p ∧ EBox 29 wd a ⟨[97, 98], 0, false, false, [], 0, false, false⟩ ∧ PBox 33 wd p ⟨1, 0, 0, 0, false, [97, 98]⟩ ∧ Only Nil w wd)
    case first =>
      go_wp2_with fail
      refine (send_any la ⟨[97, 98], 0, false, false, [], 0, false, true⟩ 1 0 _ HLA.out).mono ?_
      rw [E2.out]
      rintro x w2 ⟨l2, A2, c2, rfl, hE2, hP2, hO2⟩
      have k2 : ∀ o i, (w2.alloc o).cell? ⟨a, i, none⟩ = #[Value.slice la.Ao 2 la.co, .int .i64 0, .bool false, .bool false, .slice la.Ai 0 la.ci, .int .i64 0, .bool false, .bool true][i]? := fun o i => ((HBA.out.onlyNil hO2).alloc o).cell i
      have f2 : ∀ o i, (w2.alloc o).frozen? ⟨a, i, none⟩ = false := fun o i => ((HBA.out.onlyNil hO2).alloc o).frozen i
      have hne : a ≠ w2.heap.size := by have := (HBA.out.onlyNil hO2).lt; omega
      have hne' : w2.heap.size ≠ a := fun h => hne h.symm
      go_wp2_with fail
      go_meet
      case rel =>
        have hS := SPut.mk_ (tp := 33) (EBox.onlyNil ⟨la, HBA.out, HLA.out⟩ hO2) hE2 hP2
        exact ⟨w2.heap.size, rfl, rfl, rfl, (HBA.out.onlyNil hO2).lt, hS.ea, hS.pb, (HOA.out.thenNil hO2).trans hS.only (fun x hx => .inr (by unfold One at hx; omega))⟩
    case rest =>
      obtain ⟨p, rfl, rfl, rfl, hap, hEa, hPp, hO3⟩ := hcut
      obtain ⟨la2, hba2, hla2⟩ := hEa
      obtain ⟨Ap, cp, hbp, hlp⟩ := hPp
      have kp : ∀ i, wc.cell? ⟨p, i, none⟩ = #[Value.int .i64 1, .int .i64 0, .int .i64 0, .int .i64 0, .bool false, .slice Ap 2 cp][i]? := fun i => hbp.cell i
      have HO3 := Lib.hid hO3
      have HEA := Lib.hid (show EBox 29 wc a ⟨[97, 98], 0, false, false, [], 0, false, false⟩ from ⟨la2, hba2, hla2⟩)
      have HPP := Lib.hid (show PBox 33 wc p ⟨1, 0, 0, 0, false, [97, 98]⟩ from ⟨Ap, cp, hbp, hlp⟩)
      have HLP := Lib.hid hlp
      clear hO3 hba2 hla2 hbp hlp
      go_upto_region 3 with fail
      go_cut [5, 6] (fun pb v wd => ∃ b, pb = .pointer (some ⟨b, 0, none⟩) ∧ v = .int .i64 0 ∧ p < b ∧ EBox 29 wd a ⟨[97, 98], 0, false, false, [], 0, false, false⟩ ∧ PBox 33 wd p ⟨1, 0, 0, 0, false, [97, 98]⟩ ∧ EBox 29 wd b ⟨[], 0, false, false, [97, 98], 2, false, true⟩ ∧ Only Nil w wd)
      case first =>
        go_wp2_with fail
        refine (receive_any nowhere zE Ap cp ⟨1, 0, 0, 0, false, [97, 98]⟩ _ (EB.zero _ _) HLP.out).mono ?_
        rw [E3.out]
        rintro x w4 ⟨l4, rfl, hE4, hO4⟩
        go_wp2_with fail
        go_meet
        case rel =>
          have hO5 : Only Nil wc (w4.alloc (.cells (earr l4 ⟨[], 0, false, false, [97, 98], 2, false, true⟩) 29)) := hO4.alloc _
          exact ⟨w4.heap.size, rfl, rfl, Nat.lt_of_lt_of_le HPP.out.lt hO4.size, HEA.out.onlyNil hO5, HPP.out.onlyNil hO5, EBox.new _ hE4, HO3.out.thenNil hO5⟩
      case rest =>
        obtain ⟨b, rfl, rfl, hpb, hEa, hPp, hEb, hO5⟩ := hcut
        obtain ⟨lb, hbb, hlb⟩ := hEb
        have kb : ∀ i, wc.cell? ⟨b, i, none⟩ = #[Value.slice lb.Ao 0 lb.co, .int .i64 0, .bool false, .bool false, .slice lb.Ai 2 lb.ci, .int .i64 2, .bool false, .bool true][i]? := fun i => hbb.cell i
        have HO5 := Lib.hid hO5
        have HEA := Lib.hid hEa
        have HPP := Lib.hid hPp
        have HBB := Lib.hid hbb
        have HLB := Lib.hid hlb
        clear hO5 hEa hPp hbb hlb kp HLP
        go_upto_region 4 with fail
        go_cut [5, 7, 8] (fun pb pq v wd => ∃ q, pb = .pointer (some ⟨b, 0, none⟩) ∧ pq = .pointer (some ⟨q, 0, none⟩) ∧ v = .int .i64 0 ∧ b < q ∧ EBox 29 wd a ⟨[97, 98], 0, false, false, [], 0, false, false⟩ ∧ PBox 33 wd p ⟨1, 0, 0, 0, false, [97, 98]⟩ ∧ EBox 29 wd b ⟨[], 0, false, false, [97, 98], 2, false, false⟩ ∧ PBox 33 wd q ⟨1, 1, 0, 2, false, []⟩ ∧ Only Nil w wd)
        case first =>
          go_wp2_with fail
          refine (send_any lb ⟨[], 0, false, false, [97, 98], 2, false, true⟩ 1 1 _ HLB.out).mono ?_
          rw [E4.out]
          rintro x w6 ⟨l6, A6, c6, rfl, hE6, hP6, hO6⟩
          have k6 : ∀ o i, (w6.alloc o).cell? ⟨b, i, none⟩ = #[Value.slice lb.Ao 0 lb.co, .int .i64 0, .bool false, .bool false, .slice lb.Ai 2 lb.ci, .int .i64 2, .bool false, .bool true][i]? := fun o i => ((HBB.out.onlyNil hO6).alloc o).cell i
          have f6 : ∀ o i, (w6.alloc o).frozen? ⟨b, i, none⟩ = false := fun o i => ((HBB.out.onlyNil hO6).alloc o).frozen i
          have hne : b ≠ w6.heap.size := by have := (HBB.out.onlyNil hO6).lt; omega
          have hne' : w6.heap.size ≠ b := fun h => hne h.symm
          go_wp2_with fail
          go_meet
          case rel =>
            have hS := SPut.mk_ (tp := 33) (EBox.onlyNil ⟨lb, HBB.out, HLB.out⟩ hO6) hE6 hP6
            exact ⟨w6.heap.size, rfl, rfl, rfl, (HBB.out.onlyNil hO6).lt, hS.eo _ _ _ (HEA.out.onlyNil hO6) (by omega), hS.po _ _ _ (HPP.out.onlyNil hO6) (by omega), hS.ea, hS.pb, (HO5.out.thenNil hO6).trans hS.only (fun x hx => .inr (by unfold One at hx; omega))⟩
        case rest =>
          obtain ⟨q, rfl, rfl, rfl, hbq, hEa, hPp, hEb, hPq, hO7⟩ := hcut
          obtain ⟨la7, hba7, hla7⟩ := hEa
          obtain ⟨Aq, cq, hbq7, hlq7⟩ := hPq
          have ka7 : ∀ i, wc.cell? ⟨a, i, none⟩ = #[Value.slice la7.Ao 2 la7.co, .int .i64 0, .bool false, .bool false, .slice la7.Ai 0 la7.ci, .int .i64 0, .bool false, .bool false][i]? := fun i => hba7.cell i
          have kq7 : ∀ i, wc.cell? ⟨q, i, none⟩ = #[Value.int .i64 1, .int .i64 1, .int .i64 0, .int .i64 2, .bool false, .slice Aq 0 cq][i]? := fun i => hbq7.cell i
          have HO7 := Lib.hid hO7
          have HBA7 := Lib.hid hba7
          have HLA7 := Lib.hid hla7
          have HPP7 := Lib.hid hPp
          have HEB7 := Lib.hid hEb
          have HBQ7 := Lib.hid (show PBox 33 wc q ⟨1, 1, 0, 2, false, []⟩ from ⟨Aq, cq, hbq7, hlq7⟩)
          have HLQ7 := Lib.hid hlq7
          clear hO7 hba7 hla7 hPp hEb hbq7 hlq7 HEA HPP HLB HBB kb
          go_upto_region 5 with fail
          go_cut [9] (fun v wd => v = .int .i64 0 ∧ EBox 29 wd a ⟨[], 2, false, false, [], 0, false, false⟩ ∧ PBox 33 wd p ⟨1, 0, 0, 0, false, [97, 98]⟩ ∧ EBox 29 wd b ⟨[], 0, false, false, [97, 98], 2, false, false⟩ ∧ PBox 33 wd q ⟨1, 1, 0, 2, false, []⟩ ∧ Only Nil w wd)
          case first =>
            go_wp2_with fail
            refine (receive_any la7 ⟨[97, 98], 0, false, false, [], 0, false, false⟩ Aq cq ⟨1, 1, 0, 2, false, []⟩ _ HLA7.out HLQ7.out).mono ?_
            rw [E5.out]
            rintro x w8 ⟨l8, rfl, hE8, hO8⟩
            have k8 : ∀ i, w8.cell? ⟨a, i, none⟩ = #[Value.slice la7.Ao 2 la7.co, .int .i64 0, .bool false, .bool false, .slice la7.Ai 0 la7.ci, .int .i64 0, .bool false, .bool false][i]? := fun i => (HBA7.out.onlyNil hO8).cell i
            have f8 : ∀ i, w8.frozen? ⟨a, i, none⟩ = false := fun i => (HBA7.out.onlyNil hO8).frozen i
            go_wp2_with fail
            go_meet
            case rel =>
              have hA8 : EBox 29 w8 a ⟨[97, 98], 0, false, false, [], 0, false, false⟩ := EBox.onlyNil ⟨la7, HBA7.out, HLA7.out⟩ hO8
              have hE8' : EB w8 w8.heap.size l8 ⟨[], 2, false, false, [], 0, false, false⟩ := hE8
              have hR : EBox 29 (put8 w8 a l8 ⟨[], 2, false, false, [], 0, false, false⟩) a ⟨[], 2, false, false, [], 0, false, false⟩ ∧ PBox 33 (put8 w8 a l8 ⟨[], 2, false, false, [], 0, false, false⟩) p ⟨1, 0, 0, 0, false, [97, 98]⟩ ∧ EBox 29 (put8 w8 a l8 ⟨[], 2, false, false, [], 0, false, false⟩) b ⟨[], 0, false, false, [97, 98], 2, false, false⟩ ∧ PBox 33 (put8 w8 a l8 ⟨[], 2, false, false, [], 0, false, false⟩) q ⟨1, 1, 0, 2, false, []⟩ ∧ Only Nil w (put8 w8 a l8 ⟨[], 2, false, false, [], 0, false, false⟩) :=
                ⟨hA8.put hE8', PBox.put_far hA8 (HPP7.out.onlyNil hO8) (by omega), EBox.put_far hA8 (HEB7.out.onlyNil hO8) (by omega), PBox.put_far hA8 (HBQ7.out.onlyNil hO8) (by omega), (HO7.out.thenNil hO8).trans (put8_only _ _ _ _) (fun x hx => .inr (by unfold One at hx; omega))⟩
              exact ⟨rfl, hR⟩
          case rest =>
            obtain ⟨rfl, hEa, hPp, hEb, hPq, hO9⟩ := hcut
            obtain ⟨la9, hba9, hla9⟩ := hEa
            obtain ⟨lb9, hbb9, hlb9⟩ := hEb
            obtain ⟨Ap9, cp9, hbp9, hlp9⟩ := hPp
            obtain ⟨Aq9, cq9, hbq9, hlq9⟩ := hPq
            have ka9 : ∀ i, wc.cell? ⟨a, i, none⟩ = #[Value.slice la9.Ao 0 la9.co, .int .i64 2, .bool false, .bool false, .slice la9.Ai 0 la9.ci, .int .i64 0, .bool false, .bool false][i]? := fun i => hba9.cell i
            have kb9 : ∀ i, wc.cell? ⟨b, i, none⟩ = #[Value.slice lb9.Ao 0 lb9.co, .int .i64 0, .bool false, .bool false, .slice lb9.Ai 2 lb9.ci, .int .i64 2, .bool false, .bool false][i]? := fun i => hbb9.cell i
            have kp9 : ∀ i, wc.cell? ⟨p, i, none⟩ = #[Value.int .i64 1, .int .i64 0, .int .i64 0, .int .i64 0, .bool false, .slice Ap9 2 cp9][i]? := fun i => hbp9.cell i
            have kq9 : ∀ i, wc.cell? ⟨q, i, none⟩ = #[Value.int .i64 1, .int .i64 1, .int .i64 0, .int .i64 2, .bool false, .slice Aq9 0 cq9][i]? := fun i => hbq9.cell i
            have s1 : (convert 22 9 (.slice Ap9 2 cp9)).run Try.prog wc = .ok (.string ⟨#[97, 98]⟩) wc := run_str (P := Try.prog) wc 22 9 5 Try.underlying22 Try.underlying5 Try.underlying9 (c := cp9) hlp9.data rfl
            have s2 : (convert 22 9 (.slice lb9.Ai 2 lb9.ci)).run Try.prog wc = .ok (.string ⟨#[97, 98]⟩) wc := run_str (P := Try.prog) wc 22 9 5 Try.underlying22 Try.underlying5 Try.underlying9 (c := lb9.ci) hlb9.inn rfl
            have HO9 := Lib.hid hO9
            clear hba9 hbb9 hbp9 hbq9 hla9 hlb9 hlp9 hlq9 hO9
            go_wp2_with fail
            go_ret
            exact ⟨rfl, HO9.out⟩

end Go.Proofs.Ytfichoekjjcjiaa
