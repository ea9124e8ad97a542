/-
  The frame of an entry; the state of a chain of frames.
  No conditions: definitions and general laws.
-/
import Derived.Test.YtkcmdibpndkfbaaRcW4
import Derived.Test.YtkcmdibpndkfbaaWpI
import Derived.Test.YtkcmdibpndkfbaaInv
namespace Go.Proofs.Ytkcmdibpndkfbaa
open Go.RowKit

/-- The frame of an entry behind a number. -/
def frB (x : En) (h : Nat) : List UInt8 := be4 (encE x).length ++ be4 (4294967295 - (encE x).length) ++ encE x ++ le8 (fromS h (encE x))
/-- A chain at p: the bytes so far are its own. -/
def CH (base p : Nat) (A : Option Addr) (c : Nat) (out : List UInt8) (h : Nat) (w : World) : Prop :=
  base ≤ p ∧ Blk w p 49 #[.slice A out.length c, .int .u64 h] ∧ out.length ≤ c ∧ OwnX w base A c out
def AddPost (base p : Nat) (out : List UInt8) (h : Nat) (w : World) (e : Ending) (w' : World) : Prop :=
  e = .returned (.tuple #[]) ∧ (∃ A c, CH base p A c out h w') ∧ Only (fun z => base ≤ z) w w'

theorem Rd.blk {w : World} {g : Nat} {t : TypeId} {cs : Array Value} {n size : Nat} (h : Blk w g t cs) (hn : cs.size = n * size) : Rd w (g + 1) size (some ⟨g, 0, none⟩) n cs.toList :=
  ⟨by rw [Array.length_toList, hn], fun _ => ⟨g, 0, rfl, Nat.lt_succ_self _, fun j u hj => by
    rw [Nat.zero_add, h.cell j]
    rw [← hj]
    simp⟩⟩
def NewB (base : Nat) (cs : Array Value) : VPred := fun v w => ∃ g, v = .slice (some ⟨g, 0, none⟩) 1 1 ∧ base ≤ g ∧ Blk w g 5 cs

end Go.Proofs.Ytkcmdibpndkfbaa
