/-
  Lists of effects that a call has made: the row and every Data are its own. Several effects, one after the other, plain.
  No conditions: definitions and general laws.
-/
import Derived.Test.YtbhgaaendekghaaEfP
import Derived.Test.YtbhgaaendekghaaInv
namespace Go.Proofs.Ytbhgaaendekghaa
open Go.RowKit

theorem Rd.blk {w : World} {g : Nat} {t : TypeId} {cs : Array Value} {n size : Nat} (h : Blk w g t cs) (hn : cs.size = n * size) : Rd w (g + 1) size (some ⟨g, 0, none⟩) n cs.toList :=
  ⟨by rw [Array.length_toList, hn], fun _ => ⟨g, 0, rfl, Nat.lt_succ_self _, fun j u hj => by
    rw [Nat.zero_add, h.cell j]
    rw [← hj]
    simp⟩⟩
/-- The two Data of an effect are the call's own. -/
structure FD (base : Nat) (w : World) (r : FR) : Prop where
  cm : r.x.msg.data.length ≤ r.cm
  om : w.ownsRow base 5 1 (.slice r.Am r.x.msg.data.length r.cm) r.x.msg.data.length (bcells r.x.msg.data)
  cd : r.x.data.length ≤ r.cd
  od : w.ownsRow base 5 1 (.slice r.Ad r.x.data.length r.cd) r.x.data.length (bcells r.x.data)
theorem FD.only {base : Nat} {S : Nat → Prop} {w w' : World} {r : FR} (h : FD base w r) (hO : Only S w w') (hm : ∀ q, (Value.slice r.Am r.x.msg.data.length r.cm).ownBlock = some q → ¬ S q) (hd : ∀ q, (Value.slice r.Ad r.x.data.length r.cd).ownBlock = some q → ¬ S q) : FD base w' r :=
  ⟨h.cm, own_only h.om hO hm, h.cd, own_only h.od hO hd⟩
theorem FD.onlyNil {base : Nat} {w w' : World} {r : FR} (h : FD base w r) (hO : Only Nil w w') : FD base w' r := h.only hO (fun _ _ hx => hx) (fun _ _ hx => hx)
theorem FD.base {base base' : Nat} {w : World} {r : FR} (h : FD base' w r) (hb : base ≤ base') : FD base w r := ⟨h.cm, own_base h.om hb, h.cd, own_base h.od hb⟩
/-- A block of another type does not hold them. -/
theorem FD.blk {base g : Nat} {w w' : World} {r : FR} {t : TypeId} {cs : Array Value} (h : FD base w r) (hk : Blk w g t cs) (hne : 5 ≠ t) (hO : Only (One g) w w') : FD base w' r :=
  h.only hO (fun q hq hx => own_blk_ne h.om hk hne (by rw [hq, hx])) (fun q hq hx => own_blk_ne h.od hk hne (by rw [hq, hx]))
/-- A list of effects whose row and whose Data are the call's own. -/
structure FL (base : Nat) (w : World) (A : Option Addr) (c : Nat) (rs : List FR) : Prop where
  row : w.ownsRow base 58 15 (.slice A rs.length c) rs.length (rs.flatMap FR.cells)
  data : ∀ r ∈ rs, r.x.fits ∧ FD base w r
theorem FL.nil (base : Nat) (w : World) : FL base w none 0 [] := ⟨World.ownsRow_nil _ _ _ _, fun r hr => by cases hr⟩
theorem FL.onlyNil {base : Nat} {w w' : World} {A : Option Addr} {c : Nat} {rs : List FR} (h : FL base w A c rs) (hO : Only Nil w w') : FL base w' A c rs :=
  ⟨own_onlyNil h.row hO, fun r hr => ⟨(h.data r hr).1, (h.data r hr).2.onlyNil hO⟩⟩
theorem FL.base {base base' : Nat} {w : World} {A : Option Addr} {c : Nat} {rs : List FR} (h : FL base' w A c rs) (hb : base ≤ base') : FL base w A c rs :=
  ⟨own_base h.row hb, fun r hr => ⟨(h.data r hr).1, (h.data r hr).2.base hb⟩⟩
theorem FL.blk {base g : Nat} {w w' : World} {A : Option Addr} {c : Nat} {rs : List FR} {t : TypeId} {cs : Array Value} (h : FL base w A c rs) (hk : Blk w g t cs) (hne : 5 ≠ t) (hne2 : 58 ≠ t) (hO : Only (One g) w w') : FL base w' A c rs :=
  ⟨own_only h.row hO (fun q hq hx => own_blk_ne h.row hk hne2 (by rw [hq, hx])), fun r hr => ⟨(h.data r hr).1, (h.data r hr).2.blk hk hne hO⟩⟩
/-- One effect more. -/
theorem FL.more {base : Nat} {w w' : World} {A A' : Option Addr} {c c' : Nat} {rs : List FR} {r : FR} (h : FL base w A c rs) (hg : Only (fun x => (Value.slice A rs.length c).ownBlock = some x) w w')
    (hrow : w'.ownsRow base 58 15 (.slice A' (rs ++ [r]).length c') (rs ++ [r]).length ((rs ++ [r]).flatMap FR.cells)) (hf : r.x.fits) (hr : FD base w r) : FL base w' A' c' (rs ++ [r]) := by
  have key : ∀ q : FR, FD base w q → FD base w' q := fun q hq => hq.only hg (fun y hy hx => own_own_ne hq.om h.row (by decide) hy hx) (fun y hy hx => own_own_ne hq.od h.row (by decide) hy hx)
  refine ⟨hrow, fun q hq => ?_⟩
  rcases List.mem_append.1 hq with hq | hq
  · exact ⟨(h.data q hq).1, key q (h.data q hq).2⟩
  · rw [List.mem_singleton] at hq
    subst hq
    exact ⟨hf, key q hr⟩

theorem decF_len {l : List UInt8} {x : Ef} {n : Nat} (h : decF l = some (x, n)) : n ≤ l.length := (decF_some h).2.2.2.2.2
/-- Behind the effects xs, that took k bytes. -/
def RestF (N : Nat) (l : List UInt8) (xs : List Ef) (k : Nat) : Prop := xs.length ≤ N ∧ k ≤ l.length ∧ decFn N l = (decFn (N - xs.length) (l.drop k)).map fun r => (xs ++ r.1, k + r.2)
theorem RestF.zero (N : Nat) (l : List UInt8) : RestF N l [] 0 := by
  refine ⟨Nat.zero_le _, Nat.zero_le _, ?_⟩
  rw [List.length_nil, Nat.sub_zero, List.drop_zero]
  cases decFn N l <;> simp
theorem RestF.none_ {N : Nat} {l : List UInt8} {xs : List Ef} {k : Nat} (h : RestF N l xs k) (hl : xs.length < N) (hd : decF (l.drop k) = none) : decFn N l = none := by
  rw [h.2.2, show N - xs.length = (N - xs.length - 1) + 1 by omega]
  unfold decFn
  rw [hd]
  rfl
theorem RestF.more {N : Nat} {l : List UInt8} {xs : List Ef} {k : Nat} {x : Ef} {n : Nat} (h : RestF N l xs k) (hl : xs.length < N) (hd : decF (l.drop k) = some (x, n)) : RestF N l (xs ++ [x]) (k + n) := by
  have hk := decF_len hd
  have h2 := h.2.1
  rw [List.length_drop] at hk
  refine ⟨by rw [List.length_append, List.length_singleton]; omega, by omega, ?_⟩
  rw [h.2.2, show N - xs.length = (N - (xs ++ [x]).length) + 1 by rw [List.length_append, List.length_singleton]; omega]
  rw [decFn, hd]
  dsimp only
  rw [List.drop_drop]
  cases decFn (N - (xs ++ [x]).length) (l.drop (k + n)) with
  | none => rfl
  | some r => simp only [Option.map_some, List.append_assoc, List.cons_append, List.nil_append, Nat.add_assoc]
theorem RestF.done {N : Nat} {l : List UInt8} {xs : List Ef} {k : Nat} (h : RestF N l xs k) (hl : N ≤ xs.length) : decFn N l = some (xs, k) := by
  rw [h.2.2, show N - xs.length = 0 by omega]
  simp [decFn]

end Go.Proofs.Ytbhgaaendekghaa
