/-
  The walk of wire.Reader's Msg.
  Conditions: the reader stands within its bytes; they are at most 2 to the power 40.
-/
import Derived.Test.YtbhgaaendekghaaMqR
namespace Go.Proofs.Ytbhgaaendekghaa
open Go.RowKit

set_option maxHeartbeats 1000000 in
/-- try with the closure of Msg: where the closure answers false, the reader fails at its old place. -/
theorem try_Msg (v0 v1 : Value) (Q : Bool → World → Prop) (p : Nat) (A : Option Addr) (c : Nat) (l : List UInt8) (pos : Nat) (w : World) (h : RR w p A c l pos false)
    (hcall : Calls Try.prog 75 #[v0, v1] w fun e w' => ∃ b, e = .returned (.bool b) ∧ (∃ pos', RR w' p A c l pos' false) ∧ Q b w') :
    Calls Try.prog 60 #[.pointer (some ⟨p, 0, none⟩), .func (Fn.func 75) #[] #[v0, v1]] w (TryPost Q p A c l pos) := by
  have HC := Lib.hid hcall
  have kb : ∀ i, w.cell? ⟨p, i, none⟩ = #[Value.slice A l.length c, .int .i64 pos, .bool false][i]? := fun i => h.box.cell i
  clear hcall h
  go_enter Try.func60, Try.ntmps60
  go_wp2_with fail
  refine HC.out.mono ?_
  rintro e w1 ⟨b, rfl, ⟨pos', hR⟩, hQ⟩
  have HR := Lib.hid hR
  have HQ := Lib.hid hQ
  have kb1 : ∀ i, w1.cell? ⟨p, i, none⟩ = #[Value.slice A l.length c, .int .i64 pos', .bool false][i]? := fun i => hR.box.cell i
  have fb1 : ∀ i, w1.frozen? ⟨p, i, none⟩ = false := fun i => hR.box.frozen i
  clear hR hQ kb
  cases b
  · go_wp2_with fail
    refine bodyPost_end (v := .tuple #[]) (by simp [results, Try.results60, go_sem]) rfl ?_
    have hO : ∀ u, Only (One p) w1 u → Blk u p 96 #[.slice A l.length c, .int .i64 pos, .bool true] → TryPost Q p A c l pos (.returned (.tuple #[])) u := fun u hO hb =>
      ⟨⟨_, rfl⟩, .inr ⟨w1, HQ.out, HR.out.move hO hb, hO⟩⟩
    refine hO _ ?_ ((HR.out.box.set_ 1 _).set_ 2 _)
    (repeat' (first | with_reducible exact Only.refl _ _ | with_reducible refine Only.setCell ?_ (Or.inl ?_) _ | with_reducible refine Only.drewN ?_ _ | with_reducible refine Only.drew ?_ | with_reducible refine Only.alloc ?_ _ | (exact rfl)))
  · go_wp2_with fail
    refine bodyPost_end (v := .tuple #[]) (by simp [results, Try.results60, go_sem]) rfl ?_
    exact ⟨⟨_, rfl⟩, .inl HQ.out⟩

/-- What a closure answers. -/
def CloPost (Q : Bool → World → Prop) (p : Nat) (A : Option Addr) (c : Nat) (l : List UInt8) (e : Ending) (w' : World) : Prop :=
  ∃ b, e = .returned (.bool b) ∧ (∃ pos', RR w' p A c l pos' false) ∧ Q b w'

def MsgQ (p g : Nat) (A : Option Addr) (c : Nat) (l : List UInt8) (pos : Nat) (w : World) (b : Bool) (w' : World) : Prop :=
  Only (Two p g) w w' ∧ ((b = true ∧ ∃ m n Ax cx, decM (l.drop pos) = some (m, n) ∧ RR w' p A c l (pos + n) false ∧ Blk w' g 26 (mcells Ax cx m).toArray ∧ m.data.length ≤ cx ∧ w'.ownsRow w.heap.size 5 1 (.slice Ax m.data.length cx) m.data.length (bcells m.data)) ∨
    (b = false ∧ decM (l.drop pos) = none ∧ Blk w' g 26 (mcells none 0 zM).toArray))

set_option maxRecDepth 100000 in
set_option maxHeartbeats 1000000 in
theorem clo_Msg (g1 g2 : Nat) (p : Nat) (A : Option Addr) (c : Nat) (l : List UInt8) (pos : Nat) (w : World) (h : RR w p A c l pos false) (hp : pos ≤ l.length) (hl : l.length ≤ 1099511627776) (hc : c ≤ maxLen)
    (b1 : Blk w g1 53 #[.pointer (some ⟨p, 0, none⟩)]) (b2 : Blk w g2 26 (mcells none 0 zM).toArray) :
    Calls Try.prog 75 #[.pointer (some ⟨g1, 0, none⟩), .pointer (some ⟨g2, 0, none⟩)] w (CloPost (MsgQ p g2 A c l pos w) p A c l) := by
  have n2 : g2 ≠ p := b2.ne_ h.box (by decide)
  have HI := Lib.hid (rdmsg_any p A c l pos false w h hp hl hc)
  have B2 := Lib.hid b2
  have k1 : w.cell? ⟨g1, 0, none⟩ = some (.pointer (some ⟨p, 0, none⟩)) := b1.cell 0
  clear h hp hl hc b1 b2
  go_enter Try.func75, Try.ntmps75
  go_wp2_with fail
  refine HI.out.mono ?_
  rintro e w1 ⟨pos', hR, hp', hO, hcase⟩
  have hb2 := B2.out.only hO n2
  have k2 : ∀ i, w1.cell? ⟨g2, i, none⟩ = (mcells none 0 zM).toArray[i]? := fun i => hb2.cell i
  have f2 : ∀ i, w1.frozen? ⟨g2, i, none⟩ = false := fun i => hb2.frozen i
  unfold mcells zM at k2
  have HB2 := Lib.hid hb2
  have HR := Lib.hid hR
  have HO := Lib.hid hO
  clear hb2 hR hO hp'
  rcases hcase with ⟨m, n, Ax, cx, hd, rfl, rfl, hcx, hown⟩ | ⟨hd, rfl⟩
  · have HD := Lib.hid hd
    have HX := Lib.hid hcx
    have HW := Lib.hid hown
    have hfin : ∀ u, Only (One g2) w1 u → Blk u g2 26 (mcells Ax cx m).toArray → CloPost (MsgQ p g2 A c l pos w) p A c l (.returned (.bool true)) u := fun u hS hb => by
      have hR := HR.out.far HB2.out (mc_no _ _ _) n2.symm hS
      exact ⟨true, rfl, ⟨_, hR⟩, (HO.out.more (fun x hx => .inl hx)).then_ (hS.more (fun x hx => .inr hx)), .inl ⟨rfl, m, n, Ax, cx, HD.out, hR, hb, HX.out, own_only HW.out hS (fun q hq hx => own_blk_ne HW.out HB2.out (by decide) (by rw [hq, hx]))⟩⟩
    have hset := setM_blk (HB2.out) rfl Ax cx m
    have hso := setM_only w1 g2 Ax cx m
    obtain ⟨src, dst, kind, seq, a0, a1, a2, a3, x⟩ := m
    unfold setM mcells at hset
    unfold setM at hso
    unfold mcells at hfin ⊢
    dsimp only at hset hso hfin ⊢
    obtain ⟨X, hX⟩ : ∃ X, x.length = X := ⟨_, rfl⟩
    rw [hX] at hset hso hfin ⊢
    have HF := Lib.hid (hfin _ hso hset)
    clear hd hcx hown hset hso hfin hX
    go_wp2_with fail
    go_ret
    exact HF.out
  · have HD := Lib.hid hd
    have hfin : ∀ u, Only (One g2) w1 u → Blk u g2 26 (mcells none 0 zM).toArray → CloPost (MsgQ p g2 A c l pos w) p A c l (.returned (.bool false)) u := fun u hS hb => by
      have hR := HR.out.far HB2.out (mc_no _ _ _) n2.symm hS
      exact ⟨false, rfl, ⟨_, hR⟩, (HO.out.more (fun x hx => .inl hx)).then_ (hS.more (fun x hx => .inr hx)), .inr ⟨rfl, HD.out, hb⟩⟩
    have hset := setM_blk (HB2.out) rfl none 0 zM
    have hso := setM_only w1 g2 none 0 zM
    unfold setM mcells zM at hset
    unfold setM zM at hso
    unfold mcells zM at hfin ⊢
    have HF := Lib.hid (hfin _ hso hset)
    clear hd hset hso hfin
    go_wp2_with fail
    go_ret
    exact HF.out

/-- What the method answers. -/
def RMsgPost (r : M × Nat × Bool) (p : Nat) (A : Option Addr) (c : Nat) (l : List UInt8) (w : World) (e : Ending) (w' : World) : Prop :=
  ∃ Ax cx, e = .returned (.agg (mcells Ax cx r.1).toArray) ∧ r.1.data.length ≤ cx ∧ w'.ownsRow w.heap.size 5 1 (.slice Ax r.1.data.length cx) r.1.data.length (bcells r.1.data) ∧ RR w' p A c l r.2.1 r.2.2 ∧ Only (One p) w w'

set_option maxRecDepth 100000 in
set_option maxHeartbeats 1000000 in
theorem rMsg_any (p : Nat) (A : Option Addr) (c : Nat) (l : List UInt8) (pos : Nat) (f : Bool) (w : World) (h : RR w p A c l pos f) (hp : pos ≤ l.length) (hl : l.length ≤ 1099511627776) (hc : c ≤ maxLen) :
    Calls Try.prog 49 #[.pointer (some ⟨p, 0, none⟩)] w (RMsgPost (rMsg l pos f) p A c l w) := by
  obtain ⟨w2, hw2⟩ : ∃ w2, w2 = (w.alloc (.cells #[.pointer (some ⟨p, 0, none⟩)] 53)).alloc (.cells (mcells none 0 zM).toArray 26) := ⟨_, rfl⟩
  have hO2 : Only Nil w w2 := by rw [hw2]; exact ((Only.refl _ _).alloc _).alloc _
  have hb1 : Blk w2 w.heap.size 53 #[.pointer (some ⟨p, 0, none⟩)] := by rw [hw2]; exact (Blk.new _ _ _).alloc _
  have hb2 : Blk w2 (w.heap.size + 1) 26 (mcells none 0 zM).toArray := by
    rw [hw2]
    have := Blk.new (w.alloc (.cells #[.pointer (some ⟨p, 0, none⟩)] 53)) 26 (mcells none 0 zM).toArray
    rw [World.size_alloc] at this
    exact this
  have hpw := h.box.lt
  have hR2 := h.onlyNil hO2
  have HB2 := Lib.hid hb2
  have HO2 := Lib.hid hO2
  have HR2 := Lib.hid hR2
  obtain ⟨r, hr⟩ : ∃ r, rMsg l pos f = r := ⟨_, rfl⟩
  rw [hr]
  have HRR := Lib.hid hr
  unfold mcells zM at hw2
  dsimp only at hw2
  rw [show ([] : List UInt8).length = 0 from rfl] at hw2
  cases f
  · have ht := try_Msg _ _ _ p A c l pos w2 hR2 (clo_Msg w.heap.size (w.heap.size + 1) p A c l pos w2 hR2 hp hl hc hb1 hb2)
    have HT := Lib.hid ht
    clear ht hR2 hb1 hb2 hO2 h hp hl hr hc
    go_enter Try.func49, Try.ntmps49
    go_wp2_with fail
    rw [← hw2]
    clear hw2
    refine HT.out.mono ?_
    rintro e w1 ⟨⟨v, rfl⟩, hq⟩
    have hfin : ∃ Ax cx, Blk w1 (w.heap.size + 1) 26 (mcells Ax cx r.1).toArray ∧ r.1.data.length ≤ cx ∧ w1.ownsRow w.heap.size 5 1 (.slice Ax r.1.data.length cx) r.1.data.length (bcells r.1.data) ∧ RR w1 p A c l r.2.1 r.2.2 ∧ Only (One p) w w1 := by
      rw [← HRR.out]
      unfold rMsg
      rcases hq with ⟨hO, ⟨_, m, n, Ax, cx, hd, hR, hb, hcx, hown⟩ | ⟨h1, _⟩⟩ | ⟨u, ⟨hO, ⟨h1, _⟩ | ⟨_, hd, hb⟩⟩, hR, hOu⟩
      · rw [if_neg (by simp), hd]
        exact ⟨Ax, cx, hb, hcx, own_base hown HO2.out.size, hR, HO2.out.any.trans hO (fun x hx => by rcases hx with hx | hx; exact .inl hx; exact .inr (by omega))⟩
      · cases h1
      · cases h1
      · rw [if_neg (by simp), hd]
        exact ⟨none, 0, hb.only hOu (by unfold One; omega), Nat.le_refl _, World.ownsRow_nil _ _ _ _, hR, (HO2.out.any.trans hO (fun x hx => by rcases hx with hx | hx; exact .inl hx; exact .inr (by omega))).then_ hOu⟩
    obtain ⟨Ax, cx, hb, hcx, hown, hR, hO⟩ := hfin
    have k2 : ∀ i, w1.cell? ⟨w.heap.size + 1, i, none⟩ = (mcells Ax cx r.1).toArray[i]? := fun i => hb.cell i
    have f2 : ∀ i, w1.frozen? ⟨w.heap.size + 1, i, none⟩ = false := fun i => hb.frozen i
    have hfin : ∀ u, Only (One (w.heap.size + 1)) w1 u → RMsgPost r p A c l w (.returned (.agg (mcells Ax cx r.1).toArray)) u := fun u hS =>
      ⟨Ax, cx, rfl, hcx, own_only hown hS (fun q hq hx => own_blk_ne hown hb (by decide) (by rw [hq, hx])), hR.far hb (mc_no _ _ _) (by omega) hS, hO.trans hS (fun x hx => .inr (by unfold One at hx; omega))⟩
    obtain ⟨⟨src, dst, kind, seq, a0, a1, a2, a3, x⟩, pos', f'⟩ := r
    unfold mcells at k2 hfin
    dsimp only at k2 hfin
    obtain ⟨X, hX⟩ : ∃ X, x.length = X := ⟨_, rfl⟩
    rw [hX] at k2 hfin
    have HF := Lib.hid hfin
    clear hb hR hO hq hcx hown hX hfin HRR
    go_wp2_with fail
    refine bodyPost_ret (v := .agg #[.int .i64 src, .int .i64 dst, .int .i64 kind, .int .i64 seq, .int .i64 a0, .int .i64 a1, .int .i64 a2, .int .i64 a3, .slice Ax X cx]) (by simp [results, Try.results49, go_sem, k2]) rfl ?_
    refine HF.out _ ?_
    (repeat' (first | with_reducible exact Only.refl _ _ | with_reducible refine Only.setCell ?_ (Or.inl ?_) _ | with_reducible refine Only.drewN ?_ _ | with_reducible refine Only.drew ?_ | with_reducible refine Only.alloc ?_ _ | (exact rfl)))
  · have hr1 : r = (zM, pos, true) := by rw [← hr]; rfl
    have HR1 := Lib.hid hr1
    have HT := Lib.hid (fun F => try_failed F p A c l pos w2 hR2)
    clear hR2 hb1 hb2 hO2 h hp hl hr hr1 hc
    go_enter Try.func49, Try.ntmps49
    go_wp2_with fail
    rw [← hw2]
    clear hw2
    refine (HT.out _).mono ?_
    rintro e w1 ⟨⟨v, rfl⟩, rfl⟩
    have k2 : ∀ i, w1.cell? ⟨w.heap.size + 1, i, none⟩ = (mcells none 0 zM).toArray[i]? := fun i => HB2.out.cell i
    have f2 : ∀ i, w1.frozen? ⟨w.heap.size + 1, i, none⟩ = false := fun i => HB2.out.frozen i
    have hfin : ∀ u, Only (One (w.heap.size + 1)) w1 u → RMsgPost r p A c l w (.returned (.agg (mcells none 0 zM).toArray)) u := fun u hS => by
      rw [HR1.out]
      exact ⟨none, 0, rfl, Nat.le_refl _, World.ownsRow_nil _ _ _ _, HR2.out.far HB2.out (mc_no _ _ _) (by omega) hS, HO2.out.any.trans hS (fun x hx => .inr (by unfold One at hx; omega))⟩
    have HF := Lib.hid hfin
    clear hfin
    unfold mcells zM at k2
    go_wp2_with fail
    refine bodyPost_ret (v := .agg (mcells none 0 zM).toArray) (by simp [results, Try.results49, go_sem, k2, mcells, zM]) rfl ?_
    refine HF.out _ ?_
    (repeat' (first | with_reducible exact Only.refl _ _ | with_reducible refine Only.setCell ?_ (Or.inl ?_) _ | with_reducible refine Only.drewN ?_ _ | with_reducible refine Only.drew ?_ | with_reducible refine Only.alloc ?_ _ | (exact rfl)))

end Go.Proofs.Ytbhgaaendekghaa
