/-
  wire.String at an own row, and a string's bytes as a row of their own: which blocks turn.
  Conditions: the strings are not too long.
-/
import Derived.Test.YtbhgaaendekghaaEfJ
import Derived.Test.YtbhgaaendekghaaOpen
import Derived.Lib.ConvBytes
import Derived.SliceStrings
namespace Go.Proofs.Ytbhgaaendekghaa
open Go.ChangeShapes Go.WideShapes Go.ChangeAt Go.RowKit Go.Deep

/-- A row that a conversion of a string has made: it bears a mark, so that no own row is it. -/
def MR (u : World) (g : Nat) (q : List UInt8) : Prop := ∃ (C : Array Value) (n : Nat), u.heap[g]? = some (.cells C 5 (n, n + 1)) ∧ ∀ (j : Nat) (v : Value), (bcells q)[j]? = some v → C[j]? = some v
theorem MR.only {u u' : World} {g : Nat} {q : List UInt8} {S : Nat → Prop} (h : MR u g q) (hO : Only S u u') (hg : ¬ S g) : MR u' g q := by
  obtain ⟨C, n, h1, h2⟩ := h
  have hlt : g < u.heap.size := by
    rcases Nat.lt_or_ge g u.heap.size with h | h
    · exact h
    · rw [Array.getElem?_eq_none h] at h1; cases h1
  exact ⟨C, n, by rw [hO.block g hlt hg]; exact h1, h2⟩
theorem MR.ne {u : World} {g : Nat} {q : List UInt8} {base n : Nat} {t : TypeId} {v : Value} {xs : List Value} (h : MR u g q) (ho : u.ownsRow base t 1 v n xs) : v.ownBlock ≠ some g := by
  obtain ⟨C, m, h1, _⟩ := h
  rcases ho.2 with ⟨rfl, _⟩ | ⟨g', cap, cur, rfl, _, h2, _⟩
  · intro e
    cases e
  · intro e
    have e : g' = g := by simpa [Value.ownBlock] using e
    subst e
    rw [h1] at h2
    injection h2 with h2
    injection h2 with _ _ h2
    injection h2 with _ h2
    omega
theorem MR.bs {u : World} {g : Nat} {q : List UInt8} (h : MR u g q) : Bs u u.heap.size (some ⟨g, 0, none⟩) q := by
  obtain ⟨C, n, h1, h2⟩ := h
  have hlt : g < u.heap.size := by
    rcases Nat.lt_or_ge g u.heap.size with h | h
    · exact h
    · rw [Array.getElem?_eq_none h] at h1; cases h1
  refine ⟨by rw [bcells_length, Nat.mul_one], fun _ => ⟨g, 0, rfl, hlt, fun j v hj => ?_⟩⟩
  have h3 := h2 j v hj
  rw [Nat.zero_add]
  simp [World.cell?, h1, h3]
theorem conv_only (u : World) (e : TypeId) (s : ByteArray) : Only Nil u (Lib.bytesWorld u e s) :=
  ⟨rfl, rfl, rfl, by rw [Lib.bytesWorld_size]; omega, fun k hk _ => Lib.bytesWorld_at_old u e s k hk⟩
theorem conv_row (u : World) (q : List UInt8) : MR (Lib.bytesWorld u 5 ⟨q.toArray⟩) u.heap.size q := by
  refine ⟨_, _, Lib.bytesWorld_at_new u _ _, fun j v hj => ?_⟩
  rw [bcells_get] at hj
  cases hq : q[j]? with
  | none => rw [hq] at hj; cases hj
  | some b =>
    rw [hq] at hj
    have hjl := (List.getElem?_eq_some_iff.1 hq).1
    have hc := Lib.bytesWorld_cell u 5 ⟨q.toArray⟩ j hjl
    have e1 : (Lib.bytesWorld u 5 ⟨q.toArray⟩).cell? ⟨u.heap.size, j, none⟩ = (Lib.bytesCells u 5 ⟨q.toArray⟩)[j]? := by
      simp [World.cell?, Lib.bytesWorld_at_new]
    rw [← e1, hc, ← hj]
    have e2 : q.getD j 0 = b := by rw [List.getD_eq_getElem?_getD, hq]; rfl
    simp [e2, hq]

set_option maxRecDepth 100000 in
theorem wString_own (A : Option Addr) (c base : Nat) (l s : List UInt8) (w : World) (hb : base ≤ w.heap.size) (hw : w.ownsRow base 5 1 (.slice A l.length c) l.length (bcells l)) (hl : l.length ≤ 1099511627776) (hs : s.length ≤ 1099511627776) :
    Calls Try.prog 32 #[.slice A l.length c, sval s] w fun e w' => OutPost base (l ++ encS s) w e w' ∧ Only (fun x => (Value.slice A l.length c).ownBlock = some x) w w' := by
  obtain ⟨i0, hi0, hz0, hz1, hz2⟩ := info_parts byte_info
  have hi := int_any A c base l s.length w hb hw hl (by omega)
  have hel := encI_len (s.length : Int) (zig_lt (by omega))
  obtain ⟨r, hr⟩ : ∃ r, r = l ++ encI s.length := ⟨_, rfl⟩
  rw [← hr] at hi
  have hrl : r.length ≤ 1099511627786 := by rw [hr, List.length_append]; omega
  have hrs : l ++ encS s = r ++ s := by rw [hr, encS, List.append_assoc]
  rw [hrs]
  have HI := Lib.hid hi
  have HRL := Lib.hid hrl
  have HB := Lib.hid hb
  have HS := Lib.hid hs
  have HV : Hid (∀ x, (Value.slice A l.length c).ownBlock = some x → base ≤ x) := Lib.hid (fun x hx => ownBlock_ge hw hx)
  have HZ : Hid (ByteArray.size ⟨s.toArray⟩ = s.length) := Lib.hid rfl
  obtain ⟨N, hN⟩ : ∃ N, l.length = N := ⟨_, rfl⟩
  obtain ⟨S, hS⟩ : ∃ S, s.length = S := ⟨_, rfl⟩
  rw [hN] at HI HV ⊢
  rw [hS] at HI HS HZ
  have HSL := Lib.hid hS
  have hlen : (⟨s.toArray⟩ : ByteArray).size = S := HZ.out
  unfold sval
  clear hi hel hr hrl hrs hb hs hw hl hN hS
  go_enter Try.func32, Try.ntmps32
  go_wp2_with fail
  with_reducible refine HI.out.mono ?_
  rintro e w1 ⟨A1, c1, rfl, hc1, hown, hq, hO⟩
  have HOW := Lib.hid hown
  have HO := Lib.hid hO
  have HQ := Lib.hid hq
  clear hown hO hc1 hq
  go_wp2_with (at_builtin; go_must (refine Lib.wpList_append_own_string _ rfl (.tmp 8) (.tmp 9) _ _ rfl base 5 i0 Try.underlying22 Try.underlying9 hi0 hz0 hz1 hz2 (.slice A1 r.length c1) r.length (bcells r) rfl ?qown ⟨s.toArray⟩ rfl ?q63 ?qby ?qbase ?_))
  case qown => exact HOW.out
  case q63 => rw [HZ.out]; have := HRL.out; have := HS.out; unfold maxLen; omega
  case qby => rw [HZ.out]; have := HRL.out; have := HS.out; omega
  case qbase => exact Nat.le_trans HB.out HO.out.size
  intro v4 w4 hown4 hgr4 hat4
  obtain ⟨A4, c4, rfl, hc4⟩ := own_form hown4
  have hO4 : Only (fun x => (Value.slice A N c).ownBlock = some x) w w4 := HO.out.trans (Only.of_grown hgr4) (fun y hy => HQ.out y hy)
  rw [strCells_eq, ← bcells_append] at hown4
  try rw [HZ.out] at hown4
  try rw [HZ.out] at hc4
  have hl2 : (r ++ s).length = r.length + S := by rw [List.length_append, HSL.out]
  have HF : Hid (OutPost base (r ++ s) w (.returned (.slice A4 (r.length + S) c4)) w4 ∧ Only (fun x => (Value.slice A N c).ownBlock = some x) w w4) := Lib.hid ⟨⟨A4, c4, by rw [hl2], by rw [hl2]; exact hc4, by rw [hl2]; exact hown4, hO4.more (fun x hx => HV.out x hx)⟩, hO4⟩
  try rw [HZ.out]
  clear hO4 hown4 hgr4 hat4 hc4 hl2
  go_wp2_with fail
  go_ret
  exact HF.out

theorem rd_of_cells {α : Type} (f : α → Value) (d : α) {w : World} {a : Addr} {xs : List α} {len : Nat} (hl : len ≤ xs.length) (hcell : ∀ i, i < xs.length → w.cell? (a.add i) = some (f (xs.getD i d))) :
    Rd w w.heap.size 1 (some a) len ((xs.take len).map f) := by
  refine ⟨by rw [List.length_map, List.length_take]; omega, fun hn => ?_⟩
  have h0 := hcell 0 (by omega)
  obtain ⟨b, off, spot⟩ := a
  have hspot : spot = none := by simpa [Addr.add] using World.cell?_spot h0
  subst hspot
  refine ⟨b, off, rfl, ?_, fun j u hu => ?_⟩
  · have := lt_of_cell h0
    simpa [Addr.add] using this
  · rw [List.getElem?_map] at hu
    have hj : j < len := by
      rcases Nat.lt_or_ge j len with h1 | h1
      · exact h1
      · rw [List.getElem?_eq_none (by rw [List.length_take]; omega)] at hu; cases hu
    have hxj : xs[j]? = some (xs[j]'(by omega)) := List.getElem?_eq_getElem (by omega)
    rw [List.getElem?_take_of_lt hj, hxj] at hu
    simp only [Option.map_some] at hu
    have hc := hcell j (by omega)
    rw [add_at, List.getD_eq_getElem?_getD, hxj] at hc
    rw [← hu]
    exact hc
set_option maxRecDepth 100000 in
/-- A list of integers as an argument. -/
theorem open_ints1 {H : Type} {enc : TypeId × Value → H} {W : World} {v : Value} {d : DataW H} {p : List MemPlace} {base : Nat}
    (hv : Value.okWide Try.prog W .any base 60 v) (h : DataW.Trod enc Try.prog W 0 (fun _ => true) true 60 v d p) :
    ∃ (A : Option Addr) (zs : List Int) (c : Nat), v = .slice A zs.length c ∧ zs.length ≤ c ∧ c ≤ maxLen ∧ Rd W W.heap.size 1 A zs.length (zs.map (Value.int .i64)) ∧ ∀ z ∈ zs, -9223372036854775808 ≤ z ∧ z ≤ 9223372036854775807 := by
  obtain ⟨a0, len0, cap0, rfl⟩ := okWide_slice Try.underlying60 hv
  obtain ⟨fuel, hf⟩ := h
  have hf' : DataW.trod enc Try.prog W 0 (fun _ => true) true fuel 60 [.slice a0 len0 cap0] = some (d, p) := hf
  rcases open_ints Try.underlying60 Try.underlying3 (by kernel_rfl) hf' with ⟨hcs, hx⟩ | ⟨a, len, cap, zs, hcs, _, hl, hm, hz, _, hcell, hw⟩
  · simp at hcs
    obtain ⟨rfl, rfl, rfl⟩ := hcs
    exact ⟨none, [], 0, rfl, Nat.le_refl _, by unfold maxLen; omega, ⟨rfl, fun h => absurd h (Nat.lt_irrefl 0)⟩, fun z hz => by cases hz⟩
  · simp at hcs
    obtain ⟨rfl, rfl, rfl⟩ := hcs
    have hzl : len0 ≤ zs.length := by rw [hz]; split <;> omega
    have hll : (zs.take len0).length = len0 := by rw [List.length_take]; omega
    refine ⟨some a, zs.take len0, cap0, by rw [hll], by rw [hll]; exact hl, hm, by rw [hll]; exact rd_of_cells (Value.int .i64) 0 hzl hcell, fun z hz => mwf_i64 (hw z (List.mem_of_mem_take hz))⟩
set_option maxRecDepth 100000 in
/-- A list of strings as an argument. -/
theorem open_strs {H : Type} {enc : TypeId × Value → H} {W : World} {v : Value} {d : DataW H} {p : List MemPlace} {base : Nat}
    (hv : Value.okWide Try.prog W .any base 61 v) (h : DataW.Trod enc Try.prog W 0 (fun _ => true) true 61 v d p) :
    ∃ (A : Option Addr) (ss : List (List UInt8)) (c : Nat), v = .slice A ss.length c ∧ ss.length ≤ c ∧ c ≤ maxLen ∧ Rd W W.heap.size 1 A ss.length (ss.map sval) := by
  obtain ⟨a0, len0, cap0, rfl⟩ := okWide_slice Try.underlying61 hv
  obtain ⟨fuel, hf⟩ := h
  have hf' : DataW.trod enc Try.prog W 0 (fun _ => true) true fuel 61 [.slice a0 len0 cap0] = some (d, p) := hf
  rcases open_strings Try.underlying61 Try.underlying9 (by kernel_rfl) hf' with ⟨hcs, hx⟩ | ⟨a, len, cap, zs, hcs, _, hl, hm, hz, _, hcell, hw⟩
  · simp at hcs
    obtain ⟨rfl, rfl, rfl⟩ := hcs
    exact ⟨none, [], 0, rfl, Nat.le_refl _, by unfold maxLen; omega, ⟨rfl, fun h => absurd h (Nat.lt_irrefl 0)⟩⟩
  · simp at hcs
    obtain ⟨rfl, rfl, rfl⟩ := hcs
    have hzl : len0 ≤ zs.length := by rw [hz]; split <;> omega
    have hll : ((zs.take len0).map fun s => s.data.toList).length = len0 := by rw [List.length_map, List.length_take]; omega
    have hmm : ((zs.take len0).map fun s : ByteArray => s.data.toList).map sval = (zs.take len0).map Value.string := by
      rw [List.map_map]
      apply List.map_congr_left
      intro s _
      rfl
    refine ⟨some a, (zs.take len0).map fun s => s.data.toList, cap0, by rw [hll], by rw [hll]; exact hl, hm, ?_⟩
    rw [hll, hmm]
    exact rd_of_cells Value.string ByteArray.empty hzl hcell

end Go.Proofs.Ytbhgaaendekghaa
