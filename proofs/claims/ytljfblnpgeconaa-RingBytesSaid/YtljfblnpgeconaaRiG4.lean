/-
  Index of the repository's queue of bytes.
  Conditions: the queue is whole.
-/
import Derived.Test.YtljfblnpgeconaaRiG2
import Derived.Lib.IndexLaws
namespace Go.Proofs.Ytljfblnpgeconaa
open Go.RowKit

theorem IdxIs.of_lib (b : List UInt8) (v : UInt8) : IdxIs b v (Lib.indexByte b v) := by
  have h := Lib.indexByte_ge b v
  by_cases h1 : Lib.indexByte b v = -1
  · exact .inr ⟨h1, Lib.indexByte_none h1⟩
  · obtain ⟨o, ho⟩ : ∃ o : Nat, Lib.indexByte b v = o := ⟨(Lib.indexByte b v).toNat, by omega⟩
    obtain ⟨h2, h3⟩ := Lib.indexByte_some ho
    exact .inl ⟨o, ho, h2, h3⟩

theorem indexByte_any (A : Option Addr) (c : Nat) (b : List UInt8) (v : UInt8) (w : World) (h : Bs w w.heap.size A b) (hA : A = none ∨ ∃ g, A = some ⟨g, 0, none⟩) :
    Calls Try.prog 53 #[.slice A b.length c, .int .u8 (v.toNat : Int)] w fun e w' => (∃ z, e = .returned (.int .i64 z) ∧ IdxIs b v z) ∧ w' = w := by
  have hd : ∃ z, (callFunc 69 #[.slice A b.length c, .int .u8 (v.toNat : Int)]).run Try.prog w = .ok (.value (.int .i64 z)) w ∧ IdxIs b v z := by
    rcases b with _ | ⟨x, b⟩
    · refine ⟨-1, ?_, .inr ⟨rfl, fun j => by simp⟩⟩
      rw [run_callFunc_extern Try.func69 (by kernel_rfl) (by kernel_rfl) (by kernel_rfl) (e := Extern.BytealgIndexByte.indexByte) (by kernel_rfl)]
      rcases hA with rfl | ⟨g, rfl⟩
      · rw [Lib.run_indexByteNil w ([] : List UInt8).length c]
        rfl
      · rw [Lib.run_indexByteSlice w g 0 ([] : List UInt8).length c [] rfl (fun i hi => absurd hi (Nat.not_lt_zero i))]
        rfl
    · obtain ⟨g, off, e, hg, hc⟩ := h.2 (by simp)
      subst e
      obtain ⟨l, hl⟩ : ∃ l, x :: b = l := ⟨_, rfl⟩
      rw [hl] at h hc ⊢
      refine ⟨Lib.indexByte l v, ?_, IdxIs.of_lib l v⟩
      rw [run_callFunc_extern Try.func69 (by kernel_rfl) (by kernel_rfl) (by kernel_rfl) (e := Extern.BytealgIndexByte.indexByte) (by kernel_rfl)]
      rw [Lib.run_indexByteSlice w g off l.length c (l.map fun u => (u.toNat : Int)) (by simp) (fun i hi => ?_)]
      · have e1 : Lib.bytesOf (l.map fun u => (u.toNat : Int)) = l := by
          unfold Lib.bytesOf
          rw [List.map_map]
          conv => rhs; rw [← List.map_id l]
          apply List.map_congr_left
          intro a _
          simp
        have e2 : ((v.toNat : Int).toNat).toUInt8 = v := by simp
        rw [e1, e2]
        rfl
      · rw [hc i (.int .u8 (l[i].toNat : Int)) (by rw [bcells_get, List.getElem?_eq_getElem hi]; rfl)]
        simp [List.getD_eq_getElem?_getD, List.getElem?_eq_getElem hi]
  obtain ⟨z, hd, hz⟩ := hd
  have HZ := Lib.hid hz
  clear hz
  go_enter Try.func53, Try.ntmps53
  go_wp2_with fail
  go_ret
  exact ⟨⟨z, rfl, HZ.out⟩, rfl⟩

theorem index_any {p g size : Nat} {c : List UInt8} (v : UInt8) (w : World) (h : RB w p g size c) :
    Calls Try.prog 28 #[.pointer (some ⟨p, 0, none⟩), .int .u8 (v.toNat : Int)] w (IdxPost c v w) := by
  have H := Lib.hid h
  clear h
  go_enter Try.func28, Try.ntmps28
  go_wp2_with fail
  refine (len_any _ H.out).mono ?_
  rintro e w1 ⟨rfl, rfl⟩
  go_wp2_with fail
  refine (peek_any (c.length : Int) _ H.out).mono ?_
  rw [Int.toNat_natCast, List.take_length]
  rintro e w2 ⟨A2, c2, rfl, _, hown2, hO2⟩
  have HB := Lib.hid (Bs.of_own hown2).1
  have hAA : A2 = none ∨ ∃ g, A2 = some ⟨g, 0, none⟩ := by
    rcases hown2.2 with ⟨e, _⟩ | ⟨g, _, _, e, _⟩
    · injection e with e; exact .inl e
    · injection e with e; exact .inr ⟨g, e⟩
  have HAA := Lib.hid hAA
  clear hAA
  have HO := Lib.hid hO2
  clear hown2 hO2
  go_wp2_with fail
  refine (indexByte_any A2 c2 c v w2 HB.out HAA.out).mono ?_
  rintro e w3 ⟨⟨z, rfl, hz⟩, rfl⟩
  have HZ := Lib.hid hz
  clear hz
  go_wp2_with fail
  go_ret
  exact ⟨z, rfl, HZ.out, HO.out⟩

end Go.Proofs.Ytljfblnpgeconaa
