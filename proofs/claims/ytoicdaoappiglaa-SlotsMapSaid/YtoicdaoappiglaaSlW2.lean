/-
  Walks of slots.Table's Put, Get, Set, Drop, Handles: what each call returns and does to memory.
  Conditions: the table is fine and known whole.
-/
import Derived.Test.YtoicdaoappiglaaSlW1
import Derived.Deep.RegionHeld3
import Derived.Deep.AppendLies
import Derived.Maps.AppendAt
namespace Go.Proofs.Ytoicdaoappiglaa
open Go.RowKit

theorem Tab.drewN {w : World} {p g : Nat} {l : Tbl} (h : Tab w p g l) (n : Nat) : Tab (w.drewN n) p g l := ⟨h.tb, h.sb, h.fine⟩
theorem Tab.drew {w : World} {p g : Nat} {l : Tbl} (h : Tab w p g l) : Tab w.drew p g l := ⟨h.tb, h.sb, h.fine⟩
theorem Tab.set21 {w : World} {p g : Nat} {l : Tbl} (h : Tab w p g l) {m : Nat} (v : Int) (u : Bool) (hm : m < l.length)
    (hf : 0 ≤ (at_ l m).gen ∧ (at_ l m).gen ≤ 1000 ∧ (u = true → (at_ l m).gen < 1000)) :
    Tab ((w.setCell ⟨g, m * 3 + 2, none⟩ (.bool u)).setCell ⟨g, m * 3 + 1, none⟩ (.int .i64 v)) p g (l.set m ⟨(at_ l m).gen, v, u⟩) := by
  refine ⟨?_, ?_, h.fine.set _ _ hf⟩
  · rw [List.length_set]; exact (h.tb.far (p := ⟨g, m * 3 + 2, none⟩) h.ne _).far (p := ⟨g, m * 3 + 1, none⟩) h.ne _
  · have := (h.sb.set_ (m * 3 + 2) (.bool u)).set_ (m * 3 + 1) (.int .i64 v)
    rw [← cellsT_set21 l m v u hm]
    simpa using this
theorem Tab.set1 {w : World} {p g : Nat} {l : Tbl} (h : Tab w p g l) {m : Nat} (v : Int) (hm : m < l.length) :
    Tab (w.setCell ⟨g, m * 3 + 1, none⟩ (.int .i64 v)) p g (l.set m ⟨(at_ l m).gen, v, (at_ l m).used⟩) := by
  refine ⟨?_, ?_, h.fine.set _ _ (h.fine.at_ m)⟩
  · rw [List.length_set]; exact h.tb.far (p := ⟨g, m * 3 + 1, none⟩) h.ne _
  · have := h.sb.set_ (m * 3 + 1) (.int .i64 v)
    rw [← cellsT_set1 l m v hm]
    simpa using this

theorem Tab.alloc {w : World} {p g : Nat} {l : Tbl} (h : Tab w p g l) (o : Obj) : Tab (w.alloc o) p g l := ⟨h.tb.alloc o, h.sb.alloc o, h.fine⟩
theorem Tab.drop {w : World} {p g : Nat} {l : Tbl} (h : Tab w p g l) {m : Nat} (hm : m < l.length) (hu : (at_ l m).used = true) :
    Tab (((w.setCell ⟨g, m * 3, none⟩ (.int .i64 ((at_ l m).gen + 1))).setCell ⟨g, m * 3 + 1, none⟩ (.int .i64 0)).setCell ⟨g, m * 3 + 2, none⟩ (.bool false)) p g (l.set m ⟨(at_ l m).gen + 1, 0, false⟩) := by
  have hf := h.fine.at_ m
  have hf2 := hf.2.2 hu
  refine ⟨?_, ?_, h.fine.set _ _ ⟨by simp; omega, by simp; omega, by simp⟩⟩
  · rw [List.length_set]; exact ((h.tb.far (p := ⟨g, m * 3, none⟩) h.ne _).far (p := ⟨g, m * 3 + 1, none⟩) h.ne _).far (p := ⟨g, m * 3 + 2, none⟩) h.ne _
  · have := ((h.sb.set_ (m * 3) (.int .i64 ((at_ l m).gen + 1))).set_ (m * 3 + 1) (.int .i64 0)).set_ (m * 3 + 2) (.bool false)
    rw [← cellsT_set l m ⟨(at_ l m).gen + 1, 0, false⟩ hm]
    simpa using this

set_option maxHeartbeats 1000000 in
theorem put_any {p g : Nat} {l : Tbl} (v : Int) (w : World) (ht : Tab w p g l) :
    Calls Try.prog 9 #[.pointer (some ⟨p, 0, none⟩), .int .i64 v] w fun e w' => e = .returned (.tuple #[.int .i64 (putH l), .int .i64 (putE l)]) ∧ Tab w' p g (putT l v) ∧ Only (One g) w w' := by
  have hl := ht.fine.2.1
  have hp := ht.hdr
  have HT := Lib.hid ht
  clear ht
  go_enter Try.func9, Try.ntmps9
  go_wp2
  go_loopw [6, 16] (fun b i wr => ∃ k : Nat, k ≤ l.length ∧ i = .int .i64 k ∧ b = .int .i64 (bestTo l k) ∧ Only Nil w wr) (fun _ i _ => l.length - (intOf i).toNat)
  case atStart => exact ⟨0, Nat.zero_le _, rfl, rfl, Only.refl _ _⟩
  case round =>
    obtain ⟨k, hk, rfl, rfl, hO⟩ := hrel
    by_cases hlt : k < l.length
    · have hT := HT.out.onlyNil hO
      obtain ⟨c0, c1, c2⟩ := hT.cells hlt
      have hpr := hT.hdr
      have hg := HT.out.fine.at_ k
      have hbb := bestTo_bd l k
      have hsz := hO.size
      have HO := Lib.hid hO
      have hs : bestTo l (k + 1) = if (at_ l k).used = false ∧ (at_ l k).gen < 1000 ∧ (bestTo l k < 0 ∨ (at_ l k).gen < (at_ l (bestTo l k).toNat).gen) then (k : Int) else bestTo l k := rfl
      generalize bestTo l k = b at *
      have HS := Lib.hid hs
      clear hs hO
      have HTr := Lib.hid hT
      clear hT
      by_cases hu : (at_ l k).used = true
      · clear hg hbb
        go_wp2
        go_quiet (fail)
        go_wp2
        go_roundw
        case rel => exact ⟨k + 1, by omega, by go_num, by rw [HS.out, if_neg (by simp [hu])], (HO.out.alloc _).drewN _⟩
        case measure => simp [intOf] <;> omega
      · have hu' : (at_ l k).used = false := by simpa using hu
        clear hu
        by_cases hg1 : (at_ l k).gen < 1000
        · have hg1' : decide ((at_ l k).gen < 1000) = true := by simpa using hg1
          by_cases hb0 : b < 0
          · have hb0' : decide (b < 0) = true := by simpa using hb0
            go_wp2
            go_quiet (fail)
            go_wp2
            go_roundw
            case rel => exact ⟨k + 1, by omega, by go_num, by rw [HS.out, if_pos ⟨hu', hg1, .inl hb0⟩], (HO.out.alloc _).drewN _⟩
            case measure => simp [intOf] <;> omega
          · obtain ⟨m, rfl⟩ := Int.eq_ofNat_of_zero_le (show 0 ≤ b by omega)
            have hml : m < l.length := by omega
            obtain ⟨d0, _, _⟩ := HTr.out.cells hml
            have hpa := HTr.out.tb.lt
            have hga := HTr.out.sb.lt
            have hb0' : decide ((m : Int) < 0) = false := by simp
            simp only [Int.toNat_natCast] at HS
            by_cases hlt2 : (at_ l k).gen < (at_ l m).gen
            · have hlt2' : decide ((at_ l k).gen < (at_ l m).gen) = true := by simpa using hlt2
              go_wp2
              go_quiet (fail)
              go_wp2
              go_roundw
              case rel => exact ⟨k + 1, by omega, by go_num, by rw [HS.out, if_pos ⟨hu', hg1, .inr hlt2⟩], (HO.out.alloc _).drewN _⟩
              case measure => simp [intOf] <;> omega
            · have hlt2' : decide ((at_ l k).gen < (at_ l m).gen) = false := by simpa using hlt2
              go_wp2
              go_quiet (fail)
              go_wp2
              go_roundw
              case rel => exact ⟨k + 1, by omega, by go_num, by rw [HS.out, if_neg (by rintro ⟨_, _, h | h⟩ <;> omega)], (HO.out.alloc _).drewN _⟩
              case measure => simp [intOf] <;> omega
        · have hg1' : decide ((at_ l k).gen < 1000) = false := by simpa using hg1
          go_wp2
          go_quiet (fail)
          go_wp2
          go_roundw
          case rel => exact ⟨k + 1, by omega, by go_num, by rw [HS.out, if_neg (by rintro ⟨_, h, _⟩; omega)], (HO.out.alloc _).drewN _⟩
          case measure => simp [intOf] <;> omega
    · obtain rfl : k = l.length := by omega
      clear hlt
      have hT := HT.out.onlyNil hO
      have hbb := bestTo_bd l l.length
      have hbe : best l = bestTo l l.length := rfl
      have hH : putH l = if best l < 0 then 0 else hdl l (best l).toNat := rfl
      have hE : putE l = if best l < 0 then 13 else 0 := rfl
      have hTt : putT l v = if best l < 0 then l else l.set (best l).toNat ⟨(at_ l (best l).toNat).gen, v, true⟩ := rfl
      rw [← hbe] at hbb
      rw [← hbe]
      clear hbe
      generalize best l = b at *
      have HH := Lib.hid hH
      have HE := Lib.hid hE
      have HP := Lib.hid hTt
      have HTr := Lib.hid hT
      clear hH hE hTt hT
      by_cases hb0 : b < 0
      · go_wp2
        go_ret2
        exact ⟨by rw [HH.out, HE.out, if_pos hb0, if_pos hb0]; rfl, by rw [HP.out, if_pos hb0]; exact HTr.out, hO.any⟩
      · obtain ⟨m, rfl⟩ := Int.eq_ofNat_of_zero_le (show 0 ≤ b by omega)
        have hml : m < l.length := by omega
        obtain ⟨d0, d1, d2⟩ := HTr.out.cells hml
        have hpr := HTr.out.hdr
        have hf1 := HTr.out.sb.frozen (m * 3 + 1)
        have hf2 := HTr.out.sb.frozen (m * 3 + 2)
        have HO := Lib.hid hO
        clear hO
        go_wp2
        go_region
        go_wp2_with fail
        have hgm : (at_ l m).gen < 1000 := by have := hbb.2.2 (by omega); simpa using this.2
        have hX := HTr.out.set21 (m := m) v true hml (by have := HTr.out.fine.at_ m; exact ⟨this.1, this.2.1, fun _ => hgm⟩)
        refine (handle_any m _ hX.drew (by simpa using hml)).mono ?_
        rintro e w' ⟨rfl, n, rfl⟩
        go_wp2
        go_ret2
        have hh : hdl (l.set m ⟨(at_ l m).gen, v, true⟩) m = hdl l m := by
          unfold hdl; rw [at_set _ _ _ _ hml, if_pos rfl, List.length_set]
        refine ⟨?_, ?_, ?_⟩
        · rw [HH.out, HE.out, if_neg (by omega), if_neg (by omega), Int.toNat_natCast, ← hh]; rfl
        · rw [HP.out, if_neg (by omega)]
          exact hX.drewN _
        · exact ((HO.out.any.setCell (S := One g) (p := ⟨g, m * 3 + 2, none⟩) (.inl rfl) _).setCell (p := ⟨g, m * 3 + 1, none⟩) (.inl rfl) _).drewN _

theorem get_nil (h : Int) (w : World) :
    Calls Try.prog 12 #[.pointer none, .int .i64 h] w fun e w' => e = .returned (.tuple #[.int .i64 0, .bool false]) ∧ w' = w := by
  go_enter Try.func12, Try.ntmps12
  go_wp2_with fail
  refine (find_nil _ _).mono ?_
  rintro e w' ⟨rfl, rfl⟩
  go_wp2
  go_ret2
  exact ⟨rfl, rfl⟩

set_option maxHeartbeats 400000 in
theorem get_any {p g : Nat} {l : Tbl} (h : Int) (w : World) (ht : Tab w p g l) :
    Calls Try.prog 12 #[.pointer (some ⟨p, 0, none⟩), .int .i64 h] w fun e w' => e = .returned (.tuple #[.int .i64 (getV l h), .bool (getO l h)]) ∧ ∃ m, w' = w.drewN m := by
  have HT := Lib.hid ht
  have hF : findP g l h = match findT l h with | some i => some ⟨g, i * 3, none⟩ | none => none := rfl
  have hV : getV l h = match findT l h with | some i => (at_ l i).val | none => 0 := rfl
  have hO : getO l h = (findT l h).isSome := rfl
  rcases hf : findT l h with _ | i
  · rw [hf] at hF hV hO
    have HV := Lib.hid hV
    have HO := Lib.hid hO
    have HF := Lib.hid hF
    clear hF hV hO hf ht
    go_enter Try.func12, Try.ntmps12
    go_wp2_with fail
    refine (find_any _ _ HT.out).mono ?_
    rintro e w' ⟨rfl, m, rfl⟩
    rw [HF.out]
    go_wp2
    go_ret2
    exact ⟨by rw [HV.out, HO.out]; rfl, m, rfl⟩
  · rw [hf] at hF hV hO
    have hil := (findT_lt ht.fine.1 hf).1
    obtain ⟨_, c1, _⟩ := ht.cells hil
    have HV := Lib.hid hV
    have HO := Lib.hid hO
    have HF := Lib.hid hF
    clear hF hV hO hf ht
    go_enter Try.func12, Try.ntmps12
    go_wp2_with fail
    refine (find_any _ _ HT.out).mono ?_
    rintro e w' ⟨rfl, m, rfl⟩
    rw [HF.out]
    go_wp2
    go_ret2
    exact ⟨by rw [HV.out, HO.out]; rfl, m, rfl⟩

theorem set_nil (h v : Int) (w : World) :
    Calls Try.prog 10 #[.pointer none, .int .i64 h, .int .i64 v] w fun e w' => e = .returned (.int .i64 7) ∧ w' = w := by
  go_enter Try.func10, Try.ntmps10
  go_wp2_with fail
  refine (find_nil _ _).mono ?_
  rintro e w' ⟨rfl, rfl⟩
  go_wp2
  go_ret
  exact ⟨rfl, rfl⟩

set_option maxHeartbeats 400000 in
theorem set_any {p g : Nat} {l : Tbl} (h v : Int) (w : World) (ht : Tab w p g l) :
    Calls Try.prog 10 #[.pointer (some ⟨p, 0, none⟩), .int .i64 h, .int .i64 v] w fun e w' => e = .returned (.int .i64 (isE l h)) ∧ Tab w' p g (setT l h v) ∧ Only (One g) w w' := by
  have HT := Lib.hid ht
  have hF : findP g l h = match findT l h with | some i => some ⟨g, i * 3, none⟩ | none => none := rfl
  have hV : setT l h v = match findT l h with | some i => l.set i ⟨(at_ l i).gen, v, (at_ l i).used⟩ | none => l := rfl
  have hO : isE l h = if (findT l h).isSome then 0 else 8 := rfl
  rcases hf : findT l h with _ | i
  · rw [hf] at hF hV hO
    have HV := Lib.hid hV
    have HO := Lib.hid hO
    have HF := Lib.hid hF
    clear hF hV hO hf ht
    go_enter Try.func10, Try.ntmps10
    go_wp2_with fail
    refine (find_any _ _ HT.out).mono ?_
    rintro e w' ⟨rfl, m, rfl⟩
    rw [HF.out]
    go_wp2
    go_ret
    exact ⟨by rw [HO.out]; rfl, by rw [HV.out]; exact HT.out.drewN _, (Only.refl _ _).drewN _⟩
  · rw [hf] at hF hV hO
    have hil := (findT_lt ht.fine.1 hf).1
    obtain ⟨_, c1, _⟩ := ht.cells hil
    have hf1 := ht.sb.frozen (i * 3 + 1)
    have HV := Lib.hid hV
    have HO := Lib.hid hO
    have HF := Lib.hid hF
    clear hF hV hO hf ht
    go_enter Try.func10, Try.ntmps10
    go_wp2_with fail
    refine (find_any _ _ HT.out).mono ?_
    rintro e w' ⟨rfl, m, rfl⟩
    rw [HF.out]
    go_wp2
    go_ret
    exact ⟨by rw [HO.out]; rfl, by rw [HV.out]; exact (HT.out.set1 v hil).drewN _, ((Only.refl _ _).setCell (S := One g) (p := ⟨g, i * 3 + 1, none⟩) (.inl rfl) _).drewN _⟩

theorem drop_nil (h : Int) (w : World) :
    Calls Try.prog 11 #[.pointer none, .int .i64 h] w fun e w' => e = .returned (.int .i64 7) ∧ w' = w := by
  go_enter Try.func11, Try.ntmps11
  go_wp2_with fail
  refine (find_nil _ _).mono ?_
  rintro e w' ⟨rfl, rfl⟩
  go_wp2
  go_ret
  exact ⟨rfl, rfl⟩

set_option maxHeartbeats 400000 in
theorem drop_any {p g : Nat} {l : Tbl} (h : Int) (w : World) (ht : Tab w p g l) :
    Calls Try.prog 11 #[.pointer (some ⟨p, 0, none⟩), .int .i64 h] w fun e w' => e = .returned (.int .i64 (isE l h)) ∧ Tab w' p g (dropT l h) ∧ Only (One g) w w' := by
  have HT := Lib.hid ht
  have hF : findP g l h = match findT l h with | some i => some ⟨g, i * 3, none⟩ | none => none := rfl
  have hV : dropT l h = match findT l h with | some i => l.set i ⟨(at_ l i).gen + 1, 0, false⟩ | none => l := rfl
  have hO : isE l h = if (findT l h).isSome then 0 else 8 := rfl
  rcases hf : findT l h with _ | i
  · rw [hf] at hF hV hO
    have HV := Lib.hid hV
    have HO := Lib.hid hO
    have HF := Lib.hid hF
    clear hF hV hO hf ht
    go_enter Try.func11, Try.ntmps11
    go_wp2_with fail
    refine (find_any _ _ HT.out).mono ?_
    rintro e w' ⟨rfl, m, rfl⟩
    rw [HF.out]
    go_wp2
    go_ret
    exact ⟨by rw [HO.out]; rfl, by rw [HV.out]; exact HT.out.drewN _, (Only.refl _ _).drewN _⟩
  · rw [hf] at hF hV hO
    have hil := (findT_lt ht.fine.1 hf).1
    obtain ⟨c0, c1, c2⟩ := ht.cells hil
    have hf0 := ht.sb.frozen (i * 3)
    have hf1 := ht.sb.frozen (i * 3 + 1)
    have hf2 := ht.sb.frozen (i * 3 + 2)
    have hgg := ht.fine.at_ i
    have hu := (findT_lt ht.fine.1 hf).2.2.2.1
    have HU := Lib.hid hu
    have HV := Lib.hid hV
    have HO := Lib.hid hO
    have HF := Lib.hid hF
    clear hF hV hO hf ht hu
    go_enter Try.func11, Try.ntmps11
    go_wp2_with fail
    refine (find_any _ _ HT.out).mono ?_
    rintro e w' ⟨rfl, m, rfl⟩
    rw [HF.out]
    go_wp2
    go_ret
    exact ⟨by rw [HO.out]; rfl, by rw [HV.out]; exact (HT.out.drewN m).drop hil HU.out, (((((Only.refl _ w).drewN m).setCell (S := One g) (p := ⟨g, i * 3, none⟩) (.inl rfl) _).setCell (p := ⟨g, i * 3 + 1, none⟩) (.inl rfl) _).setCell (p := ⟨g, i * 3 + 2, none⟩) (.inl rfl) _)⟩

theorem int_info : (Try.prog.info? 3).map (fun i => (i.zero, i.size, i.bytes)) = some (some (.int .i64 0), 1, 8) := by kernel_rfl

theorem handles_nil (w : World) :
    Calls Try.prog 13 #[.pointer none] w fun e w' => e = .returned (.slice none 0 0) ∧ w' = w := by
  go_enter Try.func13, Try.ntmps13
  go_wp2_with fail
  go_ret
  exact ⟨rfl, rfl⟩

/-- 'Handles' returned the slice v, with n elements. -/
def HdlPost (l : Tbl) (w : World) (e : Ending) (w' : World) : Prop :=
  ∃ A c, e = .returned (.slice A (hdls l).length c) ∧ w'.ownsRow w.heap.size 3 1 (.slice A (hdls l).length c) (hdls l).length ((hdls l).map (Value.int .i64)) ∧ Only Nil w w'

set_option maxHeartbeats 1000000 in
theorem handles_any {p g : Nat} {l : Tbl} (w : World) (ht : Tab w p g l) :
    Calls Try.prog 13 #[.pointer (some ⟨p, 0, none⟩)] w (HdlPost l w) := by
  have hl := ht.fine.2.1
  have hp := ht.hdr
  have HT := Lib.hid ht
  clear ht
  obtain ⟨i0, hi0, hz0, hz1, hz2⟩ := info_parts int_info
  go_enter Try.func13, Try.ntmps13
  go_wp2
  go_loopw [3, 13] (fun v i wr => ∃ (k : Nat) (A : Option Addr) (c : Nat), k ≤ l.length ∧ i = .int .i64 k ∧ v = .slice A (hdlsTo l k).length c ∧ wr.ownsRow w.heap.size 3 1 (.slice A (hdlsTo l k).length c) (hdlsTo l k).length ((hdlsTo l k).map (Value.int .i64)) ∧ Only Nil w wr) (fun _ i _ => l.length - (intOf i).toNat)
  case atStart => exact ⟨0, none, 0, Nat.zero_le _, rfl, rfl, World.ownsRow_nil _ _ _ _, Only.refl _ _⟩
  case round =>
    obtain ⟨k, A, c, hk, rfl, rfl, hown, hO⟩ := hrel
    by_cases hlt : k < l.length
    · have hT := HT.out.onlyNil hO
      obtain ⟨c0, c1, c2⟩ := hT.cells hlt
      have hpr := hT.hdr
      have hsz := hO.size
      have HO := Lib.hid hO
      have hhl := hdlsTo_length l k
      have hs : hdlsTo l (k + 1) = if (at_ l k).used = true then hdlsTo l k ++ [hdl l k] else hdlsTo l k := rfl
      generalize hdlsTo l k = xs at *
      have HS := Lib.hid hs
      have HTr := Lib.hid hT
      clear hs hO hT
      by_cases hu : (at_ l k).used = true
      · have hsn : hdlsTo l (k + 1) = xs ++ [hdl l k] := by rw [HS.out, if_pos hu]
        have HSN := Lib.hid hsn
        clear hsn
        have HU := Lib.hid hu
        go_wp2_with fail
        refine (handle_any k _ (HTr.out.alloc _) hlt).mono ?_
        rintro e w' ⟨rfl, m, rfl⟩
        go_wp2_with (at_builtin; go_must (refine wpList_append_lies _ rfl (.tmp 20) (.tmp 24) _ rfl w.heap.size 3 i0 (.int .i64 0) 1 8 Try.underlying28 hi0 hz0 hz1 hz2 rfl (by omega) (.slice A xs.length c) xs.length (xs.map (Value.int .i64)) rfl ?qown ⟨wr.heap.size + 1, 0, none⟩ 1 1 [.int .i64 (hdl l k)] rfl rfl ?qnews ?qone (by omega) ?q63 ?qby ?qbase _ rfl ?_))
        case qown => exact (hown.alloc _).alloc _
        case qnews => exact cell_new1 (by simp)
        case qone => exact one_cell1 rfl
        case q63 => unfold maxLen; omega
        case qby => omega
        case qbase => simp; omega
        intro g1 cap w1 hown1 hgr hat hlt1
        have hown2 : w1.ownsRow w.heap.size 3 1 (.slice (some ⟨g1, 0, none⟩) (xs ++ [hdl l k]).length cap) (xs ++ [hdl l k]).length ((xs ++ [hdl l k]).map (Value.int .i64)) := by
          simpa using hown1
        have hO1 : Only Nil w w1 := ((HO.out.alloc _).alloc _ |>.drewN _).grown hgr (fun q hq => .inr (ownBlock_ge hown hq))
        go_wp2
        go_roundw
        case rel => exact ⟨k + 1, some ⟨g1, 0, none⟩, cap, by omega, by go_num, by rw [HSN.out]; simp, by rw [HSN.out]; exact hown2, hO1⟩
        case measure => simp [intOf] <;> omega
      · have hu' : (at_ l k).used = false := by simpa using hu
        clear hu
        have hsn : hdlsTo l (k + 1) = xs := by rw [HS.out, if_neg (by simp [hu'])]
        have HSN := Lib.hid hsn
        clear hsn
        go_wp2
        go_roundw
        case rel => exact ⟨k + 1, A, c, by omega, by go_num, by rw [HSN.out], by rw [HSN.out]; exact hown.alloc _, HO.out.alloc _⟩
        case measure => simp [intOf] <;> omega
    · obtain rfl : k = l.length := by omega
      clear hlt
      go_wp2
      go_ret
      exact ⟨A, c, rfl, hown, hO⟩

end Go.Proofs.Ytoicdaoappiglaa
