/-
  Walks of the byte queue (ring.Bytes): Peek and Take.
  Conditions: the queue is known whole.
-/
import Derived.Test.YtljfblnpgeconaaRiW1
import Derived.BigRegion
namespace Go.Proofs.Ytljfblnpgeconaa
open Go.RowKit

theorem peek_nil (n : Int) (w : World) : Calls Try.prog 17 #[.pointer none, .int .i64 n] w fun e w' => e = .returned (.slice none 0 0) ∧ w' = w := by
  rcases Int.lt_trichotomy n 0 with hn | rfl | hn
  all_goals
    go_enter Try.func17, Try.ntmps17
    go_wp2_with fail
    refine (len_nil _).mono ?_
    rintro e w1 ⟨rfl, rfl⟩
    go_wp2_with fail
    refine wp_loop_rounds 1 ?_
    rw [rounds_succ]
    go_wp2_with fail
    go_ret
    exact ⟨rfl, rfl⟩

set_option maxHeartbeats 1000000 in
theorem peek_any {p g size : Nat} {c : List UInt8} (n : Int) (w : World) (h : RB w p g size c) :
    Calls Try.prog 17 #[.pointer (some ⟨p, 0, none⟩), .int .i64 n] w (BytesPost Nil (c.take n.toNat) w) := by
  obtain ⟨hr1, hr2, hr3⟩ := h.room
  have HH := Lib.hid h
  obtain ⟨i0, hi0, hz0, hz1, hz2⟩ := info_parts byte_info
  obtain ⟨K, hK⟩ : ∃ K, K = min n.toNat c.length := ⟨_, rfl⟩
  have hK1 : K ≤ c.length := by omega
  have hct : c.take n.toNat = c.take K := by
    rw [hK]
    rcases Nat.le_total n.toNat c.length with h1 | h1
    · rw [Nat.min_eq_left h1]
    · rw [Nat.min_eq_right h1, List.take_of_length_le h1, List.take_length]
  rw [hct]
  clear h hct
  have hcase : n < 0 ∧ K = 0 ∨ (¬ n < 0 ∧ (c.length : Int) < n ∧ (c.length : Int) = K) ∨ (¬ n < 0 ∧ ¬ (c.length : Int) < n ∧ n = K) := by omega
  clear hK
  rcases hcase with ⟨h1, h2⟩ | ⟨h1, h2, h3⟩ | ⟨h1, h2, h3⟩
  · rw [h2]
    clear h2 hK1
    have hnl : ¬ (c.length : Int) < 0 := by omega
    go_enter Try.func17, Try.ntmps17
    go_wp2_with fail
    refine (len_any _ HH.out).mono ?_
    rintro e w1 ⟨rfl, rfl⟩
    go_wp2_with fail
    refine wp_loop_rounds 1 ?_
    rw [rounds_succ]
    go_wp2_with fail
    go_ret
    exact ⟨none, 0, rfl, Nat.le_refl _, World.ownsRow_nil _ _ _ _, Only.refl _ _⟩
  all_goals
    go_enter Try.func17, Try.ntmps17
    go_wp2_with fail
    refine (len_any _ HH.out).mono ?_
    rintro e w1 ⟨rfl, rfl⟩
    go_wp2_with fail
    clear h1 h2 h3
    go_loopw [5, 12] (fun v i wr => ∃ (k : Nat) (A : Option Addr) (cp : Nat), k ≤ K ∧ i = .int .i64 k ∧ v = .slice A k cp ∧ k ≤ cp ∧ wr.ownsRow w1.heap.size 5 1 (.slice A k cp) k (bcells (c.take k)) ∧ Only Nil w1 wr) (fun _ i _ => K - (intOf i).toNat)
    case atStart => exact ⟨0, none, 0, Nat.zero_le _, rfl, rfl, Nat.le_refl _, World.ownsRow_nil _ _ _ _, Only.refl _ _⟩
    case round =>
      obtain ⟨k, A, cp, hk, rfl, rfl, hcp, hown, hO⟩ := hrel
      have HO := Lib.hid hO
      have HW := Lib.hid hown
      have hsz := hO.size
      clear hO hown
      by_cases hlt : k < K
      · obtain ⟨first, ring, hf⟩ := HH.out.onlyNil HO.out
        have hfs := hf.fst
        obtain ⟨q, hq⟩ : ∃ q, (first + k) % size = q := ⟨_, rfl⟩
        have hqs : q < size := by rw [← hq]; exact Nat.mod_lt _ (by omega)
        obtain ⟨x, hx, hcx⟩ := hf.at_ hqs
        have hcont := hf.cont k (by omega)
        rw [hq, hx] at hcont
        obtain ⟨c0, c1, c2⟩ := hf.cells
        have hqi : ((first : Int) + (k : Int)) % (size : Int) = q := by rw [← hq, Int.natCast_emod, Int.natCast_add]
        have hsn : c.take (k + 1) = c.take k ++ [x] := by
          have e : c[k]'(by omega) = x := (List.getElem?_eq_some_iff.1 hcont.symm).2
          rw [List.take_succ_eq_append_getElem (by omega), e]
        have HSN := Lib.hid hsn
        have hp1 := hf.tb.lt
        have hg1 := hf.sb.lt
        have hwr : IntKind.i64.wrap ((first : Int) + (k : Int)) = (first : Int) + k := IntWalk.i64_in _ (by omega)
        have hqt : Int.tmod ((first : Int) + (k : Int)) (size : Int) = q := by rw [Int.tmod_eq_emod_of_nonneg (by omega)]; exact hqi
        have hsn0 : ¬ size = 0 := by omega
        have hwq : IntKind.i64.wrap (q : Int) = q := IntWalk.i64_in _ (by omega)
        have hq0 : (0 : Int) ≤ (q : Int) := by omega
        have hq1 : (q : Int) < (size : Int) := by omega
        have o1 : (wr.alloc (.cells #[.int .u8 (x.toNat : Int)] 5)).drew.ownsRow w1.heap.size 5 1 (.slice A k cp) k (bcells (c.take k)) := own_onlyNil HW.out ((Only.refl _ _).alloc _).drew
        have r1 : Rd (wr.alloc (.cells #[.int .u8 (x.toNat : Int)] 5)).drew (wr.heap.size + 1) 1 (some ⟨wr.heap.size, 0, none⟩) 1 [.int .u8 (x.toNat : Int)] := Rd.newBlock wr #[.int .u8 (x.toNat : Int)] _ 1 1 rfl rfl
        have y1 : bcells (c.take k) ++ [.int .u8 (x.toNat : Int)] = bcells (c.take (k + 1)) := by rw [HSN.out, bcells_append]; rfl
        have m1 : k + 1 ≤ maxLen := by unfold maxLen; omega
        have m2 : (k + 1) * 1 ≤ 140737488355328 := by omega
        have s1 : w1.heap.size ≤ (wr.alloc (.cells #[.int .u8 (x.toNat : Int)] 5)).drew.heap.size := by simp; omega
        have ks : ∀ w4, (wr.alloc (.cells #[.int .u8 (x.toNat : Int)] 5)).drew.grownBy w4 (Value.slice A k cp).ownBlock → w4.cell? ⟨p, 0, none⟩ = some (.slice (some ⟨g, 0, none⟩) size size) ∧ w4.cell? ⟨p, 1, none⟩ = some (.int .i64 first) ∧ w4.cell? ⟨g, q, none⟩ = some (.int .u8 (x.toNat : Int)) := fun w4 hg4 => by
          have hO4 : Only (fun y => w1.heap.size ≤ y) wr w4 := ((Only.refl _ _).alloc _).drew.then_ (grown_only o1 hg4)
          obtain ⟨l1, l2⟩ := HH.out.lt
          exact ⟨(hO4.cell (p := ⟨p, 0, none⟩) hp1 (by show ¬ _ ≤ p; omega)).trans c0, (hO4.cell (p := ⟨p, 1, none⟩) hp1 (by show ¬ _ ≤ p; omega)).trans c1, (hO4.cell (p := ⟨g, q, none⟩) hg1 (by show ¬ _ ≤ g; omega)).trans hcx⟩
        have KS := Lib.hid ks
        clear ks
        have O1 := Lib.hid o1
        have R1 := Lib.hid r1
        have Y1 := Lib.hid y1
        have M1 := Lib.hid m1
        have M2 := Lib.hid m2
        have S1 := Lib.hid s1
        clear hf hq hx hcont hsn o1 r1 y1 m1 m2 s1
        go_wp2_with fail
        go_region_held3 (fun w' => w'.cell? ⟨p, 0, none⟩ = some (.slice (some ⟨g, 0, none⟩) size size) ∧ w'.cell? ⟨p, 1, none⟩ = some (.int .i64 first) ∧ w'.cell? ⟨g, q, none⟩ = some (.int .u8 (x.toNat : Int))) (first | exact KS.out _ (by assumption) | go_keep)
          ((refine step_append_rd _ (by rfl) (.tmp 15) (.tmp 34) _ (by rfl) w1.heap.size 5 i0 (.int .u8 0) 1 1 Try.underlying29 hi0 hz0 hz1 hz2 rfl Nat.zero_lt_one (.slice A k cp) k (bcells (c.take k)) (by simp [Act.eval]) O1.out (wr.heap.size + 1) (some ⟨wr.heap.size, 0, none⟩) 1 1 _ (by simp [Act.eval]) R1.out (one_cell1 rfl) (k + 1) rfl _ Y1.out M1.out M2.out S1.out ?_; intro A4 c4 w4 hc4 hown4 hgr4 hat4))
        have hO4 : Only Nil w1 w4 := (HO.out.trans ((Only.refl (fun y => w1.heap.size ≤ y) wr).alloc (.cells #[.int .u8 (x.toNat : Int)] 5)).drew (fun y hy => .inr hy)).grown hgr4 (fun z hz => .inr (ownBlock_ge O1.out hz))
        have HW4 := Lib.hid hown4
        have HO4 := Lib.hid hO4
        clear hO4 hown4 hgr4 hat4 hwr hqt hwq hqi
        go_wp2_with fail
        go_roundw
        case rel => exact ⟨k + 1, A4, c4, by omega, by go_num, rfl, hc4, HW4.out, HO4.out⟩
        case measure => simp [intOf] <;> omega
      · obtain rfl : k = K := by omega
        go_wp2_with fail
        go_ret
        have e : (c.take k).length = k := by rw [List.length_take]; omega
        exact ⟨A, cp, by rw [e]; rfl, by rw [e]; exact hcp, by rw [e]; exact HW.out, HO.out⟩

theorem mod_wrap2 {f k s : Nat} (hf : f < s) (hk : k ≤ s) : (f + k) % s < s := Nat.mod_lt _ (by omega)
/-- The first k bytes are gone. -/
theorem RBf.take {w : World} {p g size first : Nat} {ring c : List UInt8} (h : RBf w p g size first ring c) {k q : Nat} (hk : k ≤ c.length) (hq : (first + k) % size = q) :
    RBf ((w.setCell ⟨p, 1, none⟩ (.int .i64 q)).setCell ⟨p, 2, none⟩ (.int .i64 ((c.length - k : Nat) : Int))) p g size q ring (c.drop k) := by
  have hf := h.fst
  have hr := h.room
  have hqs : q < size := by rw [← hq]; exact Nat.mod_lt _ h.pos
  refine ⟨?_, ?_, h.len, h.pos, h.most, hqs, by rw [List.length_drop]; omega, fun i hi => ?_⟩
  · have := (h.tb.set_ 1 (.int .i64 q)).set_ 2 (.int .i64 ((c.length - k : Nat) : Int))
    rw [List.length_drop]
    simpa using this
  · exact (h.sb.far (p := ⟨p, 1, none⟩) (Ne.symm h.ne) _).far (p := ⟨p, 2, none⟩) (Ne.symm h.ne) _
  · rw [List.length_drop] at hi
    rw [List.getElem?_drop, ← h.cont (k + i) (by omega)]
    congr 1
    rw [mod_wrap (by omega)] at hq
    rw [mod_wrap (by omega), mod_wrap (by omega)]
    split at hq <;> split <;> split <;> omega

theorem take_nil (n : Int) (w : World) : Calls Try.prog 15 #[.pointer none, .int .i64 n] w fun e w' => e = .returned (.slice none 0 0) ∧ w' = w := by
  go_enter Try.func15, Try.ntmps15
  go_wp2_with fail
  refine (peek_nil _ _).mono ?_
  rintro e w1 ⟨rfl, rfl⟩
  go_wp2_with fail
  go_ret
  exact ⟨rfl, rfl⟩

/-- Take returns the first bytes, and they are gone. -/
def TakePost (p g size : Nat) (c : List UInt8) (k : Nat) (w : World) (e : Ending) (w' : World) : Prop :=
  BytesPost (One p) (c.take k) w e w' ∧ RB w' p g size (c.drop k)

set_option maxHeartbeats 1000000 in
theorem take_any {p g size : Nat} {c : List UInt8} (n : Int) (w : World) (h : RB w p g size c) :
    Calls Try.prog 15 #[.pointer (some ⟨p, 0, none⟩), .int .i64 n] w (TakePost p g size c n.toNat w) := by
  obtain ⟨hr1, hr2, hr3⟩ := h.room
  have HH := Lib.hid h
  have hp0 := h.lt.1
  clear h
  go_enter Try.func15, Try.ntmps15
  go_wp2_with fail
  refine (peek_any _ _ HH.out).mono ?_
  rintro e w1 ⟨A, cp, rfl, hcp, hown, hO⟩
  have hkl : (c.take n.toNat).length = min n.toNat c.length := List.length_take
  have HKL := Lib.hid hkl
  have hk1 : (c.take n.toNat).length ≤ c.length := by rw [hkl]; omega
  have HO := Lib.hid hO
  have HW := Lib.hid hown
  have hdr : c.drop (c.take n.toNat).length = c.drop n.toNat := by
    rw [hkl]
    rcases Nat.le_total n.toNat c.length with h1 | h1
    · rw [Nat.min_eq_left h1]
    · rw [Nat.min_eq_right h1, List.drop_of_length_le h1, List.drop_length]
  have HDR := Lib.hid hdr
  obtain ⟨first, ring, hf⟩ := HH.out.onlyNil hO
  clear hkl hdr hO hown
  obtain ⟨k, hk⟩ : ∃ k, (c.take n.toNat).length = k := ⟨_, rfl⟩
  have HK := Lib.hid hk
  rw [hk] at hk1 hcp
  rw [hk]
  obtain ⟨q, hq⟩ : ∃ q, (first + k) % size = q := ⟨_, rfl⟩
  have hqs : q < size := by rw [← hq]; exact Nat.mod_lt _ (by omega)
  have hfs := hf.fst
  obtain ⟨c0, c1, c2⟩ := hf.cells
  have f1 := hf.tb.frozen 1
  have f2 := hf.tb.frozen 2
  have hqi : ((first : Int) + (k : Int)) % (size : Int) = q := by rw [← hq, Int.natCast_emod, Int.natCast_add]
  have hwr : IntKind.i64.wrap ((first : Int) + (k : Int)) = (first : Int) + k := IntWalk.i64_in _ (by omega)
  have hqt : Int.tmod ((first : Int) + (k : Int)) (size : Int) = q := by rw [Int.tmod_eq_emod_of_nonneg (by omega)]; exact hqi
  have hsn0 : ¬ size = 0 := by omega
  have hwq : IntKind.i64.wrap (q : Int) = q := IntWalk.i64_in _ (by omega)
  have hwc : IntKind.i64.wrap ((c.length : Int) - (k : Int)) = ((c.length - k : Nat) : Int) := by rw [IntWalk.i64_in _ (by omega)]; omega
  have hT := hf.take hk1 hq
  have HT := Lib.hid hT
  clear hf hq hT hk
  go_wp2_with fail
  go_region
  clear hqi hwr hqt hwq hwc
  go_wp2_with fail
  go_ret
  have hl : (c.take n.toNat).length = k := HK.out
  rw [hl] at HW
  have hO2 : Only (One p) w1 ((w1.setCell ⟨p, 1, none⟩ (.int .i64 q)).setCell ⟨p, 2, none⟩ (.int .i64 ((c.length - k : Nat) : Int))).drew :=
    (((Only.refl (One p) w1).setCell (p := ⟨p, 1, none⟩) (.inl rfl) _).setCell (p := ⟨p, 2, none⟩) (.inl rfl) _).drew
  have hown2 := own_only HW.out hO2 (fun z hz hx => by have := ownBlock_ge HW.out hz; unfold One at hx; omega)
  refine ⟨⟨A, cp, by rw [hl]; rfl, by rw [hl]; exact hcp, by rw [hl]; exact hown2, HO.out.any.then_ hO2⟩, ?_⟩
  have := (show RB _ p g size _ from ⟨_, _, HT.out⟩).drewN 1
  rw [← hl, HDR.out] at this
  rw [hl] at this
  exact this

end Go.Proofs.Ytljfblnpgeconaa
