/-
  Walks of replay: (*states).entry, for each kind of entry.
  Conditions: the states lie in a block that is known whole; the task's number is less than 32.
-/
import Derived.Test.YtdejceojhkdjnaaRpW3
namespace Go.Proofs.Ytdejceojhkdjnaa
open Go.RowKit


set_option maxRecDepth 100000 in
set_option maxHeartbeats 1000000 in
theorem entry_k1 (A : Option Addr) (c : Nat) (k : Nat) (call a0 a1 a2 result : Int) (data : List UInt8) {g : Nat} {s : List PS} {t : PS} (w : World) (hv : vE ⟨1, k, call, a0, a1, a2, result, data⟩ = true) (h : SB w g s) (ht : s[k]? = some t) (hk : k < 32) :
    Calls Try.prog 34 #[.pointer (some ⟨g, 0, none⟩), .agg #[.int .i64 1, .int .i64 k, .int .i64 call, .int .i64 a0, .int .i64 a1, .int .i64 a2, .int .i64 result, .slice A data.length c]] w (EntPost g s ⟨1, k, call, a0, a1, a2, result, data⟩ w) := by
  have hva := valid_any ⟨A, c, ⟨1, k, call, a0, a1, a2, result, data⟩⟩
  rw [hv] at hva
  unfold ER.cells at hva
  dsimp only at hva
  have hE : entE s ⟨1, k, call, a0, a1, a2, result, data⟩ = if (stepS s ⟨1, k, call, a0, a1, a2, result, data⟩).2 then 0 else 7 := by unfold entE; rw [if_pos hv]
  have hS : entS s ⟨1, k, call, a0, a1, a2, result, data⟩ = (stepS s ⟨1, k, call, a0, a1, a2, result, data⟩).1 := by unfold entS; rw [if_pos hv]
  have hst : stepS s ⟨1, k, call, a0, a1, a2, result, data⟩ = (s.set k ⟨t.there, true, t.closed, call⟩, t.there && (!t.calling && !t.closed)) := by
    unfold stepS
    dsimp only
    rw [Int.toNat_natCast, getD_of ht]
    simp [zPS]
  rw [hst] at hE hS
  try dsimp only at hE hS
  unfold EntPost
  rw [hE, hS]
  have hk' : (k : Int) < 32 := by omega
  have HVA := Lib.hid hva
  have HSB := Lib.hid h
  have HT := Lib.hid ht
  have HV := Lib.hid hv
  have HK := Lib.hid hk
  clear hva h ht hv hE hS hst hk
  obtain ⟨th, ca, cl, n⟩ := t
  try dsimp only
  have hp0 : g < w.heap.size := HSB.out.blk.lt
  have HP0 := Lib.hid hp0
  clear hp0
  cases th <;> cases ca <;> cases cl
  all_goals
    go_enter Try.func34, Try.ntmps34
    go_wp2_with fail
    refine (HVA.out _).mono ?_
    rintro x w1 ⟨rfl, hO1⟩
    have hO01 : Only Nil w w1 := ((Only.refl _ _).alloc _).thenNil hO1
    have k0 : ∀ i, w1.cell? ⟨w.heap.size, i, none⟩ = #[Value.int .i64 1, .int .i64 k, .int .i64 call, .int .i64 a0, .int .i64 a1, .int .i64 a2, .int .i64 result, .slice A data.length c][i]? := fun i => ((Blk.new w 42 _).onlyNil hO1).cell i
    obtain ⟨c0, c1, c2, c3⟩ := (HSB.out.onlyNil hO01).cell HT.out
    have fg : ∀ i, w1.frozen? ⟨g, i, none⟩ = false := fun i => (HSB.out.onlyNil hO01).frozen i
    dsimp only at c0 c1 c2 c3
    have HO1 := Lib.hid hO01
    have HBX := Lib.hid ((Blk.new w 42 _).onlyNil hO1)
    have HS1 := Lib.hid (HSB.out.onlyNil hO01)
    have hne : g ≠ w.heap.size := by have := HP0.out; omega
    have hne' : w.heap.size ≠ g := fun h => hne h.symm
    clear hO1 hO01
    go_wp2_with fail
    go_quiet (fail)
    go_wp2_with fail
    all_goals (first | go_region | skip)
    all_goals go_wp2_with fail
    all_goals
      go_ret
      have hl : k < s.length := by rw [HSB.out.len]; exact HK.out
      refine ⟨by first | rfl | (simp; done) | simp_all, (SB.step (SB.step (SB.start (SB.drewN_ (HS1.out) _) HT.out) hl 1 (by omega) _ ⟨_, true, _, _⟩ rfl) hl 3 (by omega) _ ⟨_, _, _, call⟩ rfl), (HO1.out).any.then_ ?_⟩
      (repeat' (first | with_reducible exact Only.refl _ _ | with_reducible refine Only.setCell ?_ (Or.inl ?_) _ | with_reducible refine Only.drewN ?_ _ | with_reducible refine Only.drew ?_ | with_reducible refine Only.alloc ?_ _ | (exact rfl)))

set_option maxRecDepth 100000 in
set_option maxHeartbeats 1000000 in
theorem entry_k2 (A : Option Addr) (c : Nat) (k : Nat) (call a0 a1 a2 result : Int) (data : List UInt8) {g : Nat} {s : List PS} {t : PS} (w : World) (hv : vE ⟨2, k, call, a0, a1, a2, result, data⟩ = true) (h : SB w g s) (ht : s[k]? = some t) (hk : k < 32) :
    Calls Try.prog 34 #[.pointer (some ⟨g, 0, none⟩), .agg #[.int .i64 2, .int .i64 k, .int .i64 call, .int .i64 a0, .int .i64 a1, .int .i64 a2, .int .i64 result, .slice A data.length c]] w (EntPost g s ⟨2, k, call, a0, a1, a2, result, data⟩ w) := by
  have hva := valid_any ⟨A, c, ⟨2, k, call, a0, a1, a2, result, data⟩⟩
  rw [hv] at hva
  unfold ER.cells at hva
  dsimp only at hva
  have hE : entE s ⟨2, k, call, a0, a1, a2, result, data⟩ = if (stepS s ⟨2, k, call, a0, a1, a2, result, data⟩).2 then 0 else 7 := by unfold entE; rw [if_pos hv]
  have hS : entS s ⟨2, k, call, a0, a1, a2, result, data⟩ = (stepS s ⟨2, k, call, a0, a1, a2, result, data⟩).1 := by unfold entS; rw [if_pos hv]
  have hst : stepS s ⟨2, k, call, a0, a1, a2, result, data⟩ = (s.set k ⟨t.there, false, t.closed, t.call⟩, inS s k call && call != 0) := by
    unfold stepS
    dsimp only
    rw [Int.toNat_natCast, getD_of ht]
    simp [zPS]
  rw [hst] at hE hS
  try dsimp only at hE hS
  unfold EntPost
  rw [hE, hS]
  have hk' : (k : Int) < 32 := by omega
  have HVA := Lib.hid hva
  have HSB := Lib.hid h
  have HT := Lib.hid ht
  have HV := Lib.hid hv
  have HK := Lib.hid hk
  clear hva h ht hv hE hS hst hk
  obtain ⟨th, ca, cl, n⟩ := t
  try dsimp only
  obtain ⟨q, hq⟩ : ∃ q, inS s k call = q := ⟨_, rfl⟩
  rw [hq]
  have HQ := Lib.hid hq
  clear hq
  have hp0 : g < w.heap.size := HSB.out.blk.lt
  have HP0 := Lib.hid hp0
  clear hp0
  cases q <;> cases hcc : (call != 0)
  all_goals
    go_enter Try.func34, Try.ntmps34
    go_wp2_with fail
    refine (HVA.out _).mono ?_
    rintro x w1 ⟨rfl, hO1⟩
    have hO01 : Only Nil w w1 := ((Only.refl _ _).alloc _).thenNil hO1
    have k0 : ∀ i, w1.cell? ⟨w.heap.size, i, none⟩ = #[Value.int .i64 2, .int .i64 k, .int .i64 call, .int .i64 a0, .int .i64 a1, .int .i64 a2, .int .i64 result, .slice A data.length c][i]? := fun i => ((Blk.new w 42 _).onlyNil hO1).cell i
    obtain ⟨c0, c1, c2, c3⟩ := (HSB.out.onlyNil hO01).cell HT.out
    have fg : ∀ i, w1.frozen? ⟨g, i, none⟩ = false := fun i => (HSB.out.onlyNil hO01).frozen i
    dsimp only at c0 c1 c2 c3
    have HO1 := Lib.hid hO01
    have HBX := Lib.hid ((Blk.new w 42 _).onlyNil hO1)
    have HS1 := Lib.hid (HSB.out.onlyNil hO01)
    have hne : g ≠ w.heap.size := by have := HP0.out; omega
    have hne' : w.heap.size ≠ g := fun h => hne h.symm
    clear hO1 hO01
    go_wp2_with fail
    go_quiet (fail)
    go_wp2_with fail
    refine (in_any k call _ (HS1.out.drewN_ _) HK.out).mono ?_
    rintro x w2 ⟨rfl, hO2⟩
    have hO02 : Only Nil w w2 := HO1.out.drewN _ |>.thenNil hO2
    have k02 : ∀ i, w2.cell? ⟨w.heap.size, i, none⟩ = #[Value.int .i64 2, .int .i64 k, .int .i64 call, .int .i64 a0, .int .i64 a1, .int .i64 a2, .int .i64 result, .slice A data.length c][i]? := fun i => (HBX.out.onlyNil ((Only.refl _ _).drewN _ |>.thenNil hO2)).cell i
    obtain ⟨b0, b1, b2, b3⟩ := (HS1.out.onlyNil ((Only.refl _ _).drewN _ |>.thenNil hO2)).cell HT.out
    have fg2 : ∀ i, w2.frozen? ⟨g, i, none⟩ = false := fun i => (HS1.out.onlyNil ((Only.refl _ _).drewN _ |>.thenNil hO2)).frozen i
    have HS2 := Lib.hid (HS1.out.onlyNil ((Only.refl _ _).drewN _ |>.thenNil hO2))
    have HO2 := Lib.hid hO02
    dsimp only at b0 b1 b2 b3
    clear hO2 hO02 k0 c0 c1 c2 c3 fg
    rw [HQ.out]
    all_goals go_wp2_with fail
    all_goals
      go_ret
      have hl : k < s.length := by rw [HSB.out.len]; exact HK.out
      refine ⟨by first | rfl | (simp; done) | simp_all, (SB.step (SB.start HS2.out HT.out) hl 1 (by omega) _ ⟨_, false, _, _⟩ rfl), (HO2.out).any.then_ ?_⟩
      (repeat' (first | with_reducible exact Only.refl _ _ | with_reducible refine Only.setCell ?_ (Or.inl ?_) _ | with_reducible refine Only.drewN ?_ _ | with_reducible refine Only.drew ?_ | with_reducible refine Only.alloc ?_ _ | (exact rfl)))

set_option maxRecDepth 100000 in
set_option maxHeartbeats 1000000 in
theorem entry_k4 (A : Option Addr) (c : Nat) (k : Nat) (call a0 a1 a2 result : Int) (data : List UInt8) {g : Nat} {s : List PS} {t : PS} (w : World) (hv : vE ⟨4, k, call, a0, a1, a2, result, data⟩ = true) (h : SB w g s) (ht : s[k]? = some t) (hk : k < 32) :
    Calls Try.prog 34 #[.pointer (some ⟨g, 0, none⟩), .agg #[.int .i64 4, .int .i64 k, .int .i64 call, .int .i64 a0, .int .i64 a1, .int .i64 a2, .int .i64 result, .slice A data.length c]] w (EntPost g s ⟨4, k, call, a0, a1, a2, result, data⟩ w) := by
  have hva := valid_any ⟨A, c, ⟨4, k, call, a0, a1, a2, result, data⟩⟩
  rw [hv] at hva
  unfold ER.cells at hva
  dsimp only at hva
  have hE : entE s ⟨4, k, call, a0, a1, a2, result, data⟩ = if (stepS s ⟨4, k, call, a0, a1, a2, result, data⟩).2 then 0 else 7 := by unfold entE; rw [if_pos hv]
  have hS : entS s ⟨4, k, call, a0, a1, a2, result, data⟩ = (stepS s ⟨4, k, call, a0, a1, a2, result, data⟩).1 := by unfold entS; rw [if_pos hv]
  have hst : stepS s ⟨4, k, call, a0, a1, a2, result, data⟩ = (s.set k ⟨t.there, t.calling, true, t.call⟩, t.there && !t.closed) := by
    unfold stepS
    dsimp only
    rw [Int.toNat_natCast, getD_of ht]
    simp [zPS]
  rw [hst] at hE hS
  try dsimp only at hE hS
  unfold EntPost
  rw [hE, hS]
  have hk' : (k : Int) < 32 := by omega
  have HVA := Lib.hid hva
  have HSB := Lib.hid h
  have HT := Lib.hid ht
  have HV := Lib.hid hv
  have HK := Lib.hid hk
  clear hva h ht hv hE hS hst hk
  obtain ⟨th, ca, cl, n⟩ := t
  try dsimp only
  have hp0 : g < w.heap.size := HSB.out.blk.lt
  have HP0 := Lib.hid hp0
  clear hp0
  cases th <;> cases cl
  all_goals
    go_enter Try.func34, Try.ntmps34
    go_wp2_with fail
    refine (HVA.out _).mono ?_
    rintro x w1 ⟨rfl, hO1⟩
    have hO01 : Only Nil w w1 := ((Only.refl _ _).alloc _).thenNil hO1
    have k0 : ∀ i, w1.cell? ⟨w.heap.size, i, none⟩ = #[Value.int .i64 4, .int .i64 k, .int .i64 call, .int .i64 a0, .int .i64 a1, .int .i64 a2, .int .i64 result, .slice A data.length c][i]? := fun i => ((Blk.new w 42 _).onlyNil hO1).cell i
    obtain ⟨c0, c1, c2, c3⟩ := (HSB.out.onlyNil hO01).cell HT.out
    have fg : ∀ i, w1.frozen? ⟨g, i, none⟩ = false := fun i => (HSB.out.onlyNil hO01).frozen i
    dsimp only at c0 c1 c2 c3
    have HO1 := Lib.hid hO01
    have HBX := Lib.hid ((Blk.new w 42 _).onlyNil hO1)
    have HS1 := Lib.hid (HSB.out.onlyNil hO01)
    have hne : g ≠ w.heap.size := by have := HP0.out; omega
    have hne' : w.heap.size ≠ g := fun h => hne h.symm
    clear hO1 hO01
    go_wp2_with fail
    go_quiet (fail)
    go_wp2_with fail
    all_goals go_wp2_with fail
    all_goals
      go_ret
      have hl : k < s.length := by rw [HSB.out.len]; exact HK.out
      refine ⟨by first | rfl | (simp; done) | simp_all, (SB.step (SB.start (SB.drewN_ (HS1.out) _) HT.out) hl 2 (by omega) _ ⟨_, _, true, _⟩ rfl), (HO1.out).any.then_ ?_⟩
      (repeat' (first | with_reducible exact Only.refl _ _ | with_reducible refine Only.setCell ?_ (Or.inl ?_) _ | with_reducible refine Only.drewN ?_ _ | with_reducible refine Only.drew ?_ | with_reducible refine Only.alloc ?_ _ | (exact rfl)))

set_option maxRecDepth 100000 in
set_option maxHeartbeats 1000000 in
theorem entry_k5 (A : Option Addr) (c : Nat) (k : Nat) (call a0 a1 a2 result : Int) (data : List UInt8) {g : Nat} {s : List PS} {t : PS} (w : World) (hv : vE ⟨5, k, call, a0, a1, a2, result, data⟩ = true) (h : SB w g s) (ht : s[k]? = some t) (hk : k < 32) :
    Calls Try.prog 34 #[.pointer (some ⟨g, 0, none⟩), .agg #[.int .i64 5, .int .i64 k, .int .i64 call, .int .i64 a0, .int .i64 a1, .int .i64 a2, .int .i64 result, .slice A data.length c]] w (EntPost g s ⟨5, k, call, a0, a1, a2, result, data⟩ w) := by
  have hva := valid_any ⟨A, c, ⟨5, k, call, a0, a1, a2, result, data⟩⟩
  rw [hv] at hva
  unfold ER.cells at hva
  dsimp only at hva
  have hE : entE s ⟨5, k, call, a0, a1, a2, result, data⟩ = if (stepS s ⟨5, k, call, a0, a1, a2, result, data⟩).2 then 0 else 7 := by unfold entE; rw [if_pos hv]
  have hS : entS s ⟨5, k, call, a0, a1, a2, result, data⟩ = (stepS s ⟨5, k, call, a0, a1, a2, result, data⟩).1 := by unfold entS; rw [if_pos hv]
  have hst : stepS s ⟨5, k, call, a0, a1, a2, result, data⟩ = (s, inS s k 2) := by
    unfold stepS
    dsimp only
    rw [Int.toNat_natCast, getD_of ht]
    simp [zPS]
  rw [hst] at hE hS
  try dsimp only at hE hS
  unfold EntPost
  rw [hE, hS]
  have hk' : (k : Int) < 32 := by omega
  have HVA := Lib.hid hva
  have HSB := Lib.hid h
  have HT := Lib.hid ht
  have HV := Lib.hid hv
  have HK := Lib.hid hk
  clear hva h ht hv hE hS hst hk
  obtain ⟨th, ca, cl, n⟩ := t
  try dsimp only
  obtain ⟨q, hq⟩ : ∃ q, inS s k 2 = q := ⟨_, rfl⟩
  rw [hq]
  have HQ := Lib.hid hq
  clear hq
  have hp0 : g < w.heap.size := HSB.out.blk.lt
  have HP0 := Lib.hid hp0
  clear hp0
  cases q
  all_goals
    go_enter Try.func34, Try.ntmps34
    go_wp2_with fail
    refine (HVA.out _).mono ?_
    rintro x w1 ⟨rfl, hO1⟩
    have hO01 : Only Nil w w1 := ((Only.refl _ _).alloc _).thenNil hO1
    have k0 : ∀ i, w1.cell? ⟨w.heap.size, i, none⟩ = #[Value.int .i64 5, .int .i64 k, .int .i64 call, .int .i64 a0, .int .i64 a1, .int .i64 a2, .int .i64 result, .slice A data.length c][i]? := fun i => ((Blk.new w 42 _).onlyNil hO1).cell i
    obtain ⟨c0, c1, c2, c3⟩ := (HSB.out.onlyNil hO01).cell HT.out
    have fg : ∀ i, w1.frozen? ⟨g, i, none⟩ = false := fun i => (HSB.out.onlyNil hO01).frozen i
    dsimp only at c0 c1 c2 c3
    have HO1 := Lib.hid hO01
    have HBX := Lib.hid ((Blk.new w 42 _).onlyNil hO1)
    have HS1 := Lib.hid (HSB.out.onlyNil hO01)
    have hne : g ≠ w.heap.size := by have := HP0.out; omega
    have hne' : w.heap.size ≠ g := fun h => hne h.symm
    clear hO1 hO01
    go_wp2_with fail
    go_quiet (fail)
    go_wp2_with fail
    refine (in_any k 2 _ (HS1.out.drewN_ _) HK.out).mono ?_
    rintro x w2 ⟨rfl, hO2⟩
    have hO02 : Only Nil w w2 := HO1.out.drewN _ |>.thenNil hO2
    have k02 : ∀ i, w2.cell? ⟨w.heap.size, i, none⟩ = #[Value.int .i64 5, .int .i64 k, .int .i64 call, .int .i64 a0, .int .i64 a1, .int .i64 a2, .int .i64 result, .slice A data.length c][i]? := fun i => (HBX.out.onlyNil ((Only.refl _ _).drewN _ |>.thenNil hO2)).cell i
    obtain ⟨b0, b1, b2, b3⟩ := (HS1.out.onlyNil ((Only.refl _ _).drewN _ |>.thenNil hO2)).cell HT.out
    have fg2 : ∀ i, w2.frozen? ⟨g, i, none⟩ = false := fun i => (HS1.out.onlyNil ((Only.refl _ _).drewN _ |>.thenNil hO2)).frozen i
    have HS2 := Lib.hid (HS1.out.onlyNil ((Only.refl _ _).drewN _ |>.thenNil hO2))
    have HO2 := Lib.hid hO02
    dsimp only at b0 b1 b2 b3
    clear hO2 hO02 k0 c0 c1 c2 c3 fg
    rw [HQ.out]
    all_goals go_wp2_with fail
    all_goals
      go_ret
      have hl : k < s.length := by rw [HSB.out.len]; exact HK.out
      refine ⟨by first | rfl | (simp; done) | simp_all, HS2.out, (HO2.out).any.then_ ?_⟩
      (repeat' (first | with_reducible exact Only.refl _ _ | with_reducible refine Only.setCell ?_ (Or.inl ?_) _ | with_reducible refine Only.drewN ?_ _ | with_reducible refine Only.drew ?_ | with_reducible refine Only.alloc ?_ _ | (exact rfl)))

set_option maxRecDepth 100000 in
set_option maxHeartbeats 1000000 in
theorem entry_k6 (A : Option Addr) (c : Nat) (k : Nat) (call a0 a1 a2 result : Int) (data : List UInt8) {g : Nat} {s : List PS} {t : PS} (w : World) (hv : vE ⟨6, k, call, a0, a1, a2, result, data⟩ = true) (h : SB w g s) (ht : s[k]? = some t) (hk : k < 32) :
    Calls Try.prog 34 #[.pointer (some ⟨g, 0, none⟩), .agg #[.int .i64 6, .int .i64 k, .int .i64 call, .int .i64 a0, .int .i64 a1, .int .i64 a2, .int .i64 result, .slice A data.length c]] w (EntPost g s ⟨6, k, call, a0, a1, a2, result, data⟩ w) := by
  have hva := valid_any ⟨A, c, ⟨6, k, call, a0, a1, a2, result, data⟩⟩
  rw [hv] at hva
  unfold ER.cells at hva
  dsimp only at hva
  have hE : entE s ⟨6, k, call, a0, a1, a2, result, data⟩ = if (stepS s ⟨6, k, call, a0, a1, a2, result, data⟩).2 then 0 else 7 := by unfold entE; rw [if_pos hv]
  have hS : entS s ⟨6, k, call, a0, a1, a2, result, data⟩ = (stepS s ⟨6, k, call, a0, a1, a2, result, data⟩).1 := by unfold entS; rw [if_pos hv]
  have hst : stepS s ⟨6, k, call, a0, a1, a2, result, data⟩ = (s.set k ⟨false, false, false, 0⟩, t.there && t.closed) := by
    unfold stepS
    dsimp only
    rw [Int.toNat_natCast, getD_of ht]
    simp [zPS]
  rw [hst] at hE hS
  try dsimp only at hE hS
  unfold EntPost
  rw [hE, hS]
  have hk' : (k : Int) < 32 := by omega
  have HVA := Lib.hid hva
  have HSB := Lib.hid h
  have HT := Lib.hid ht
  have HV := Lib.hid hv
  have HK := Lib.hid hk
  clear hva h ht hv hE hS hst hk
  obtain ⟨th, ca, cl, n⟩ := t
  try dsimp only
  have hp0 : g < w.heap.size := HSB.out.blk.lt
  have HP0 := Lib.hid hp0
  clear hp0
  cases th <;> cases cl
  all_goals
    go_enter Try.func34, Try.ntmps34
    go_wp2_with fail
    refine (HVA.out _).mono ?_
    rintro x w1 ⟨rfl, hO1⟩
    have hO01 : Only Nil w w1 := ((Only.refl _ _).alloc _).thenNil hO1
    have k0 : ∀ i, w1.cell? ⟨w.heap.size, i, none⟩ = #[Value.int .i64 6, .int .i64 k, .int .i64 call, .int .i64 a0, .int .i64 a1, .int .i64 a2, .int .i64 result, .slice A data.length c][i]? := fun i => ((Blk.new w 42 _).onlyNil hO1).cell i
    obtain ⟨c0, c1, c2, c3⟩ := (HSB.out.onlyNil hO01).cell HT.out
    have fg : ∀ i, w1.frozen? ⟨g, i, none⟩ = false := fun i => (HSB.out.onlyNil hO01).frozen i
    dsimp only at c0 c1 c2 c3
    have HO1 := Lib.hid hO01
    have HBX := Lib.hid ((Blk.new w 42 _).onlyNil hO1)
    have HS1 := Lib.hid (HSB.out.onlyNil hO01)
    have hne : g ≠ w.heap.size := by have := HP0.out; omega
    have hne' : w.heap.size ≠ g := fun h => hne h.symm
    clear hO1 hO01
    go_wp2_with fail
    go_quiet (fail)
    go_wp2_with fail
    all_goals go_wp2_with fail
    all_goals
      go_ret
      have hl : k < s.length := by rw [HSB.out.len]; exact HK.out
      refine ⟨by first | rfl | (simp; done) | simp_all, (SB.step (SB.step (SB.step (SB.step (SB.start (SB.drewN_ (HS1.out) _) HT.out) hl 0 (by omega) _ ⟨false, _, _, _⟩ rfl) hl 1 (by omega) _ ⟨_, false, _, _⟩ rfl) hl 2 (by omega) _ ⟨_, _, false, _⟩ rfl) hl 3 (by omega) _ ⟨_, _, _, 0⟩ rfl), (HO1.out).any.then_ ?_⟩
      (repeat' (first | with_reducible exact Only.refl _ _ | with_reducible refine Only.setCell ?_ (Or.inl ?_) _ | with_reducible refine Only.drewN ?_ _ | with_reducible refine Only.drew ?_ | with_reducible refine Only.alloc ?_ _ | (exact rfl)))

set_option maxRecDepth 100000 in
set_option maxHeartbeats 1000000 in
theorem entry_k7 (A : Option Addr) (c : Nat) (k : Nat) (call a0 a1 a2 result : Int) (data : List UInt8) {g : Nat} {s : List PS} {t : PS} (w : World) (hv : vE ⟨7, k, call, a0, a1, a2, result, data⟩ = true) (h : SB w g s) (ht : s[k]? = some t) (hk : k < 32) :
    Calls Try.prog 34 #[.pointer (some ⟨g, 0, none⟩), .agg #[.int .i64 7, .int .i64 k, .int .i64 call, .int .i64 a0, .int .i64 a1, .int .i64 a2, .int .i64 result, .slice A data.length c]] w (EntPost g s ⟨7, k, call, a0, a1, a2, result, data⟩ w) := by
  have hva := valid_any ⟨A, c, ⟨7, k, call, a0, a1, a2, result, data⟩⟩
  rw [hv] at hva
  unfold ER.cells at hva
  dsimp only at hva
  have hE : entE s ⟨7, k, call, a0, a1, a2, result, data⟩ = if (stepS s ⟨7, k, call, a0, a1, a2, result, data⟩).2 then 0 else 7 := by unfold entE; rw [if_pos hv]
  have hS : entS s ⟨7, k, call, a0, a1, a2, result, data⟩ = (stepS s ⟨7, k, call, a0, a1, a2, result, data⟩).1 := by unfold entS; rw [if_pos hv]
  have hst : stepS s ⟨7, k, call, a0, a1, a2, result, data⟩ = (s, true) := by
    unfold stepS
    dsimp only
    rw [Int.toNat_natCast, getD_of ht]
    simp [zPS]
  rw [hst] at hE hS
  try dsimp only at hE hS
  unfold EntPost
  rw [hE, hS]
  have hk' : (k : Int) < 32 := by omega
  have HVA := Lib.hid hva
  have HSB := Lib.hid h
  have HT := Lib.hid ht
  have HV := Lib.hid hv
  have HK := Lib.hid hk
  clear hva h ht hv hE hS hst hk
  obtain ⟨th, ca, cl, n⟩ := t
  try dsimp only
  have hp0 : g < w.heap.size := HSB.out.blk.lt
  have HP0 := Lib.hid hp0
  clear hp0
  all_goals
    go_enter Try.func34, Try.ntmps34
    go_wp2_with fail
    refine (HVA.out _).mono ?_
    rintro x w1 ⟨rfl, hO1⟩
    have hO01 : Only Nil w w1 := ((Only.refl _ _).alloc _).thenNil hO1
    have k0 : ∀ i, w1.cell? ⟨w.heap.size, i, none⟩ = #[Value.int .i64 7, .int .i64 k, .int .i64 call, .int .i64 a0, .int .i64 a1, .int .i64 a2, .int .i64 result, .slice A data.length c][i]? := fun i => ((Blk.new w 42 _).onlyNil hO1).cell i
    obtain ⟨c0, c1, c2, c3⟩ := (HSB.out.onlyNil hO01).cell HT.out
    have fg : ∀ i, w1.frozen? ⟨g, i, none⟩ = false := fun i => (HSB.out.onlyNil hO01).frozen i
    dsimp only at c0 c1 c2 c3
    have HO1 := Lib.hid hO01
    have HBX := Lib.hid ((Blk.new w 42 _).onlyNil hO1)
    have HS1 := Lib.hid (HSB.out.onlyNil hO01)
    have hne : g ≠ w.heap.size := by have := HP0.out; omega
    have hne' : w.heap.size ≠ g := fun h => hne h.symm
    clear hO1 hO01
    go_wp2_with fail
    go_quiet (fail)
    go_wp2_with fail
    all_goals go_wp2_with fail
    all_goals
      go_ret
      have hl : k < s.length := by rw [HSB.out.len]; exact HK.out
      refine ⟨by first | rfl | (simp; done) | simp_all, SB.drewN_ HS1.out _, (HO1.out).any.then_ ?_⟩
      (repeat' (first | with_reducible exact Only.refl _ _ | with_reducible refine Only.setCell ?_ (Or.inl ?_) _ | with_reducible refine Only.drewN ?_ _ | with_reducible refine Only.drew ?_ | with_reducible refine Only.alloc ?_ _ | (exact rfl)))

set_option maxRecDepth 100000 in
set_option maxHeartbeats 1000000 in
theorem entry_k3 (A : Option Addr) (c : Nat) (k : Nat) (call a0 a1 a2 : Int) (rn : Nat) (data : List UInt8) {g : Nat} {s : List PS} {t : PS} (w : World) (hv : vE ⟨3, k, call, a0, a1, a2, (rn : Int), data⟩ = true) (h : SB w g s) (ht : s[k]? = some t) (hk : k < 32) (hrn : rn < 32) :
    Calls Try.prog 34 #[.pointer (some ⟨g, 0, none⟩), .agg #[.int .i64 3, .int .i64 k, .int .i64 call, .int .i64 a0, .int .i64 a1, .int .i64 a2, .int .i64 (rn : Int), .slice A data.length c]] w (EntPost g s ⟨3, k, call, a0, a1, a2, (rn : Int), data⟩ w) := by
  have hva := valid_any ⟨A, c, ⟨3, k, call, a0, a1, a2, (rn : Int), data⟩⟩
  rw [hv] at hva
  unfold ER.cells at hva
  dsimp only at hva
  have hE : entE s ⟨3, k, call, a0, a1, a2, (rn : Int), data⟩ = if (stepS s ⟨3, k, call, a0, a1, a2, (rn : Int), data⟩).2 then 0 else 7 := by unfold entE; rw [if_pos hv]
  have hS : entS s ⟨3, k, call, a0, a1, a2, (rn : Int), data⟩ = (stepS s ⟨3, k, call, a0, a1, a2, (rn : Int), data⟩).1 := by unfold entS; rw [if_pos hv]
  have hst : stepS s ⟨3, k, call, a0, a1, a2, (rn : Int), data⟩ = (s.set k ⟨true, false, false, 0⟩, !t.there && inS s rn 1) := by
    unfold stepS
    dsimp only
    rw [Int.toNat_natCast, Int.toNat_natCast, getD_of ht]
    simp [zPS]
  rw [hst] at hE hS
  try dsimp only at hE hS
  unfold EntPost
  rw [hE, hS]
  have hk' : (k : Int) < 32 := by omega
  have HVA := Lib.hid hva
  have HSB := Lib.hid h
  have HT := Lib.hid ht
  have HV := Lib.hid hv
  have HK := Lib.hid hk
  have HRN := Lib.hid hrn
  clear hva h ht hv hE hS hst hk hrn
  obtain ⟨th, ca, cl, n⟩ := t
  try dsimp only
  obtain ⟨q, hq⟩ : ∃ q, inS s rn 1 = q := ⟨_, rfl⟩
  rw [hq]
  have HQ := Lib.hid hq
  clear hq
  have hp0 : g < w.heap.size := HSB.out.blk.lt
  have HP0 := Lib.hid hp0
  clear hp0
  cases th
  rotate_left
  · all_goals
      go_enter Try.func34, Try.ntmps34
      go_wp2_with fail
      refine (HVA.out _).mono ?_
      rintro x w1 ⟨rfl, hO1⟩
      have hO01 : Only Nil w w1 := ((Only.refl _ _).alloc _).thenNil hO1
      have k0 : ∀ i, w1.cell? ⟨w.heap.size, i, none⟩ = #[Value.int .i64 3, .int .i64 k, .int .i64 call, .int .i64 a0, .int .i64 a1, .int .i64 a2, .int .i64 (rn : Int), .slice A data.length c][i]? := fun i => ((Blk.new w 42 _).onlyNil hO1).cell i
      obtain ⟨c0, c1, c2, c3⟩ := (HSB.out.onlyNil hO01).cell HT.out
      have fg : ∀ i, w1.frozen? ⟨g, i, none⟩ = false := fun i => (HSB.out.onlyNil hO01).frozen i
      dsimp only at c0 c1 c2 c3
      have HO1 := Lib.hid hO01
      have HBX := Lib.hid ((Blk.new w 42 _).onlyNil hO1)
      have HS1 := Lib.hid (HSB.out.onlyNil hO01)
      have hne : g ≠ w.heap.size := by have := HP0.out; omega
      have hne' : w.heap.size ≠ g := fun h => hne h.symm
      clear hO1 hO01
      go_wp2_with fail
      go_quiet (fail)
      go_wp2_with fail
      all_goals go_wp2_with fail
      all_goals
        go_ret
        have hl : k < s.length := by rw [HSB.out.len]; exact HK.out
        refine ⟨by first | rfl | (simp; done) | simp_all, (SB.step (SB.step (SB.step (SB.step (SB.start (SB.drewN_ (HS1.out) _) HT.out) hl 0 (by omega) _ ⟨true, _, _, _⟩ rfl) hl 1 (by omega) _ ⟨_, false, _, _⟩ rfl) hl 2 (by omega) _ ⟨_, _, false, _⟩ rfl) hl 3 (by omega) _ ⟨_, _, _, 0⟩ rfl), (HO1.out).any.then_ ?_⟩
        (repeat' (first | with_reducible exact Only.refl _ _ | with_reducible refine Only.setCell ?_ (Or.inl ?_) _ | with_reducible refine Only.drewN ?_ _ | with_reducible refine Only.drew ?_ | with_reducible refine Only.alloc ?_ _ | (exact rfl)))
  · cases q
    all_goals
      go_enter Try.func34, Try.ntmps34
      go_wp2_with fail
      refine (HVA.out _).mono ?_
      rintro x w1 ⟨rfl, hO1⟩
      have hO01 : Only Nil w w1 := ((Only.refl _ _).alloc _).thenNil hO1
      have k0 : ∀ i, w1.cell? ⟨w.heap.size, i, none⟩ = #[Value.int .i64 3, .int .i64 k, .int .i64 call, .int .i64 a0, .int .i64 a1, .int .i64 a2, .int .i64 (rn : Int), .slice A data.length c][i]? := fun i => ((Blk.new w 42 _).onlyNil hO1).cell i
      obtain ⟨c0, c1, c2, c3⟩ := (HSB.out.onlyNil hO01).cell HT.out
      have fg : ∀ i, w1.frozen? ⟨g, i, none⟩ = false := fun i => (HSB.out.onlyNil hO01).frozen i
      dsimp only at c0 c1 c2 c3
      have HO1 := Lib.hid hO01
      have HBX := Lib.hid ((Blk.new w 42 _).onlyNil hO1)
      have HS1 := Lib.hid (HSB.out.onlyNil hO01)
      have hne : g ≠ w.heap.size := by have := HP0.out; omega
      have hne' : w.heap.size ≠ g := fun h => hne h.symm
      clear hO1 hO01
      go_wp2_with fail
      go_quiet (fail)
      go_wp2_with fail
      refine (in_any rn 1 _ (HS1.out.drewN_ _) HRN.out).mono ?_
      rintro x w2 ⟨rfl, hO2⟩
      have hO02 : Only Nil w w2 := HO1.out.drewN _ |>.thenNil hO2
      have k02 : ∀ i, w2.cell? ⟨w.heap.size, i, none⟩ = #[Value.int .i64 3, .int .i64 k, .int .i64 call, .int .i64 a0, .int .i64 a1, .int .i64 a2, .int .i64 (rn : Int), .slice A data.length c][i]? := fun i => (HBX.out.onlyNil ((Only.refl _ _).drewN _ |>.thenNil hO2)).cell i
      obtain ⟨b0, b1, b2, b3⟩ := (HS1.out.onlyNil ((Only.refl _ _).drewN _ |>.thenNil hO2)).cell HT.out
      have fg2 : ∀ i, w2.frozen? ⟨g, i, none⟩ = false := fun i => (HS1.out.onlyNil ((Only.refl _ _).drewN _ |>.thenNil hO2)).frozen i
      have HS2 := Lib.hid (HS1.out.onlyNil ((Only.refl _ _).drewN _ |>.thenNil hO2))
      have HO2 := Lib.hid hO02
      dsimp only at b0 b1 b2 b3
      clear hO2 hO02 k0 c0 c1 c2 c3 fg
      rw [HQ.out]
      all_goals go_wp2_with fail
      all_goals
        go_ret
        have hl : k < s.length := by rw [HSB.out.len]; exact HK.out
        refine ⟨by first | rfl | (simp; done) | simp_all, (SB.step (SB.step (SB.step (SB.step (SB.start HS2.out HT.out) hl 0 (by omega) _ ⟨true, _, _, _⟩ rfl) hl 1 (by omega) _ ⟨_, false, _, _⟩ rfl) hl 2 (by omega) _ ⟨_, _, false, _⟩ rfl) hl 3 (by omega) _ ⟨_, _, _, 0⟩ rfl), (HO2.out).any.then_ ?_⟩
        (repeat' (first | with_reducible exact Only.refl _ _ | with_reducible refine Only.setCell ?_ (Or.inl ?_) _ | with_reducible refine Only.drewN ?_ _ | with_reducible refine Only.drew ?_ | with_reducible refine Only.alloc ?_ _ | (exact rfl)))

end Go.Proofs.Ytdejceojhkdjnaa
