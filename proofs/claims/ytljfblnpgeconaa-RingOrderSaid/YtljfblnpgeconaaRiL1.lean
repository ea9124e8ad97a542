/-
  The law RingOrder: what is taken out of a byte queue, followed by what is left, is what was accepted.
  No conditions.
-/
import Derived.Test.YtljfblnpgeconaaRiA
import Derived.Test.YtljfblnpgeconaaRiB
import Derived.Deep.LoopGhost
namespace Go.Proofs.Ytljfblnpgeconaa
open Go.ChangeShapes Go.WideShapes Go.ChangeAt Go.RowKit

namespace ringOrder
/-- What is known at the head of the loop. -/
structure Inv (w wr : World) (p g size k : Nat) (Ai Ao : Option Addr) (ci co : Nat) (inn out c : List UInt8) : Prop where
  hin : wr.ownsRow w.heap.size 5 1 (.slice Ai inn.length ci) inn.length (bcells inn)
  hout : wr.ownsRow w.heap.size 5 1 (.slice Ao out.length co) out.length (bcells out)
  hq : RB wr p g size c
  eq : out ++ c = inn
  len : inn.length ≤ 200 * k
  ni : ∀ q, (Value.slice Ai inn.length ci).ownBlock = some q → ¬ TwoB p g q ∧ (Value.slice Ao out.length co).ownBlock ≠ some q
  no : ∀ q, (Value.slice Ao out.length co).ownBlock = some q → ¬ TwoB p g q
  only : Only Nil w wr
  pg : w.heap.size ≤ p ∧ w.heap.size ≤ g
  ci : inn.length ≤ ci
  co : out.length ≤ co

theorem Inv.two {w wr : World} {p g size k : Nat} {Ai Ao : Option Addr} {ci co : Nat} {inn out c : List UInt8} (h : Inv w wr p g size k Ai Ao ci co inn out c) : ∀ x, TwoB p g x → Nil x ∨ w.heap.size ≤ x := fun x hx => .inr (by
  have := h.pg
  rcases hx with hx | hx <;> omega)

/-- The owned row a slice of that kept its bytes. -/
theorem Inv.put {w wr w4 wx w6 : World} {p g size k K : Nat} {Ai Ao A4 : Option Addr} {ci co c4 : Nat} {inn out c b : List UInt8} (h : Inv w wr p g size k Ai Ao ci co inn out c)
    (hT : RB w4 p g size (c ++ b.take (size - c.length))) (hO4 : Only (TwoB p g) wr w4) (hOx : Only Nil w4 wx) (hK : K = min b.length (size - c.length)) (hb : b.length ≤ 200)
    (hc4 : (inn ++ b.take K).length ≤ c4) (hown : w6.ownsRow w.heap.size 5 1 (.slice A4 (inn ++ b.take K).length c4) (inn ++ b.take K).length (bcells (inn ++ b.take K)))
    (hgr : wx.grownBy w6 (Value.slice Ai inn.length ci).ownBlock)
    (hat : (Value.slice A4 (inn ++ b.take K).length c4).ownBlock = (Value.slice Ai inn.length ci).ownBlock ∨ (Value.slice A4 (inn ++ b.take K).length c4).ownBlock = some wx.heap.size) :
    Inv w w6 p g size (k + 1) A4 Ao c4 co (inn ++ b.take K) out (c ++ b.take (size - c.length)) := by
  have hOg : Only (fun x => (Value.slice Ai inn.length ci).ownBlock = some x) w4 w6 := hOx.any.then_ (Only.of_grown hgr)
  have hlt := hT.lt
  have hsx := hOx.size
  have hs4 := hO4.size
  have hbk : b.take (size - c.length) = b.take K := by
    rw [hK]
    rcases Nat.le_total b.length (size - c.length) with h1 | h1
    · rw [Nat.min_eq_left h1, List.take_of_length_le h1, List.take_length]
    · rw [Nat.min_eq_right h1]
  refine ⟨hown, own_only (own_only h.hout hO4 (fun q hq => h.no q hq)) hOg (fun q hq hx => (h.ni q hx).2 hq), hT.only hOg (fun hx => (h.ni p hx).1 (.inl rfl)) (fun hx => (h.ni g hx).1 (.inr rfl)), ?_, ?_, ?_, h.no, ?_, h.pg, hc4, h.co⟩
  · rw [hbk, ← List.append_assoc, h.eq]
  · have := h.len
    simp [List.length_take]
    omega
  · intro q hq
    rcases hat with h1 | h1
    · exact h.ni q (h1 ▸ hq)
    · rw [h1] at hq
      injection hq with hq
      refine ⟨?_, fun he => ?_⟩
      · rintro (hx | hx) <;> omega
      · have := own_lt h.hout he
        omega
  · exact ((h.only.trans hO4 h.two).thenNil hOx).trans (Only.of_grown hgr) (fun x hx => .inr (ownBlock_ge h.hin hx))

theorem Inv.take {w wr w4 w6 : World} {p g size k K : Nat} {Ai Ao A4 : Option Addr} {ci co c4 : Nat} {inn out c : List UInt8} (h : Inv w wr p g size k Ai Ao ci co inn out c)
    (hT : RB w4 p g size (c.drop K)) (hO4 : Only (One p) wr w4)
    (hc4 : (out ++ c.take K).length ≤ c4) (hown : w6.ownsRow w.heap.size 5 1 (.slice A4 (out ++ c.take K).length c4) (out ++ c.take K).length (bcells (out ++ c.take K)))
    (hgr : w4.grownBy w6 (Value.slice Ao out.length co).ownBlock)
    (hat : (Value.slice A4 (out ++ c.take K).length c4).ownBlock = (Value.slice Ao out.length co).ownBlock ∨ (Value.slice A4 (out ++ c.take K).length c4).ownBlock = some w4.heap.size) :
    Inv w w6 p g size (k + 1) Ai A4 ci c4 inn (out ++ c.take K) (c.drop K) := by
  have hOg : Only (fun x => (Value.slice Ao out.length co).ownBlock = some x) w4 w6 := Only.of_grown hgr
  have hlt := hT.lt
  have hs4 := hO4.size
  have hO4' : Only (TwoB p g) wr w4 := hO4.more (fun x hx => .inl hx)
  refine ⟨own_only (own_only h.hin hO4' (fun q hq => (h.ni q hq).1)) hOg (fun q hq hx => (h.ni q hq).2 hx), hown, hT.only hOg (fun hx => h.no p hx (.inl rfl)) (fun hx => h.no g hx (.inr rfl)), ?_, ?_, ?_, ?_, ?_, h.pg, h.ci, hc4⟩
  · rw [List.append_assoc, List.take_append_drop, h.eq]
  · have := h.len
    omega
  · intro q hq
    refine ⟨(h.ni q hq).1, fun he => ?_⟩
    rcases hat with h1 | h1
    · exact (h.ni q hq).2 (h1 ▸ he)
    · rw [h1] at he
      injection he with he
      have := own_lt h.hin hq
      omega
  · intro q hq
    rcases hat with h1 | h1
    · exact h.no q (h1 ▸ hq)
    · rw [h1] at hq
      injection hq with hq
      rintro (hx | hx) <;> omega
  · exact (h.only.trans hO4' h.two).trans hOg (fun x hx => .inr (ownBlock_ge h.hout hx))

theorem Inv.next {w wr : World} {p g size k : Nat} {Ai Ao : Option Addr} {ci co : Nat} {inn out c : List UInt8} (h : Inv w wr p g size k Ai Ao ci co inn out c) (n : Nat) : Inv w (wr.drewN n) p g size (k + 1) Ai Ao ci co inn out c := by
  have hO := (Only.refl Nil wr).drewN n
  exact ⟨own_onlyNil h.hin hO, own_onlyNil h.hout hO, h.hq.onlyNil hO, h.eq, by have := h.len; omega, h.ni, h.no, h.only.thenNil hO, h.pg, h.ci, h.co⟩

set_option maxRecDepth 100000 in
set_option maxHeartbeats 2000000 in
theorem walk (A : Option Addr) (len cap : Nat) (xs : List St) (n : Int) (w : World) (hlen : xs.length = len) (hmax : len ≤ maxLen) (hR : Rd w w.heap.size 3 A len (xs.flatMap St.cells))
    (hB : ∀ s ∈ xs, s.b.length ≤ s.c ∧ s.c ≤ maxLen ∧ Bs w w.heap.size s.A s.b) :
    Calls Try.prog 3 #[.slice A len cap, .int .i64 n] w (LawPost w) := by
  obtain ⟨i0, hi0, hz0, hz1, hz2⟩ := info_parts byte_info
  have hshort : ∀ w', Only Nil w w' → Calls Try.prog 12 #[.slice A len cap] w' fun e w'' => e = .returned (.bool (shortB xs)) ∧ w'' = w' := fun w' hO =>
    short_any A len cap xs w' hlen hmax (Rd.more (hR.onlyNil hO (Nat.le_refl _)) hO.size)
  have HSH := Lib.hid hshort
  clear hshort
  unfold maxLen at hmax
  by_cases hn : 1 ≤ n ∧ n ≤ 4096
  · obtain ⟨m, rfl⟩ := Int.eq_ofNat_of_zero_le (show 0 ≤ n by omega)
    by_cases hs : shortB xs = true
    · have hsb : (∀ s ∈ xs, s.b.length ≤ 200) ∧ xs.length ≤ 40 := by
        unfold shortB at hs
        rw [Bool.and_eq_true, List.all_eq_true, decide_eq_true_eq] at hs
        exact ⟨fun s h => by simpa using hs.1 s h, hs.2⟩
      have hl40 : len ≤ 40 := by omega
      have HSB := Lib.hid hsb.1
      have HR := Lib.hid hR
      have HL := Lib.hid hlen
      have HB := Lib.hid hB
      clear hR hlen hB hsb
      rw [hs] at HSH
      clear hs
      go_enter Try.func3, Try.ntmps3
      go_wp2_with fail
      refine (awake_any _).mono ?_
      rintro e w1 ⟨rfl, hO1⟩
      have HO1 := Lib.hid hO1
      clear hO1
      go_wp2_with fail
      refine (newBytes_any m _ (by omega) (by omega)).mono ?_
      rintro e w2 ⟨rfl, hT, hO2⟩
      have hsz1 := HO1.out.size
      have HO := Lib.hid (HO1.out.thenNil hO2)
      have HT := Lib.hid hT
      clear HO1 hO2 hT
      obtain ⟨p, hp⟩ : ∃ p, p = w1.heap.size + 1 := ⟨_, rfl⟩
      obtain ⟨g, hg⟩ : ∃ g, g = w1.heap.size := ⟨_, rfl⟩
      rw [← hp, ← hg] at HT
      rw [← hp]
      have hpw : w.heap.size ≤ p := by omega
      have hgw : w.heap.size ≤ g := by omega
      clear hp hg hsz1
      go_wp2_with fail
      refine (HSH.out _ HO.out).mono ?_
      rintro e w3 ⟨rfl, rfl⟩
      go_wp2_with fail
      go_loopw [7, 8, 9] (fun v o i wr => ∃ (k : Nat) (Ai Ao : Option Addr) (ci co : Nat) (inn out c : List UInt8), k ≤ len ∧ i = .int .i64 k ∧ v = .slice Ai inn.length ci ∧ o = .slice Ao out.length co ∧
          Inv w wr p g m k Ai Ao ci co inn out c) (fun _ _ i _ => len - (intOf i).toNat)
      case atStart => exact ⟨0, none, none, 0, 0, [], [], [], Nat.zero_le _, rfl, rfl, rfl, ⟨World.ownsRow_nil _ _ _ _, World.ownsRow_nil _ _ _ _, HT.out, rfl, Nat.zero_le _, fun q hq => (by cases hq), fun q hq => (by cases hq), HO.out, ⟨hpw, hgw⟩, Nat.le_refl _, Nat.le_refl _⟩⟩
      case round =>
        obtain ⟨k, Ai, Ao, ci, co, inn, out, c, hk, rfl, rfl, rfl, hI⟩ := hrel
        have HI := Lib.hid hI
        have hszr := hI.only.size
        clear hI HT HO
        by_cases hlt : k < len
        · obtain ⟨s, hs⟩ : ∃ s, xs[k]? = some s := ⟨xs[k]'(by rw [HL.out]; exact hlt), List.getElem?_eq_getElem _⟩
          obtain ⟨b, off, rfl, hbw, hc⟩ := (HR.out.onlyNil HI.out.only (Nat.le_refl _)).row St.cells_len hs (by omega)
          have c0 : wr.cell? ⟨b, off + k * 3, none⟩ = some (.int .i64 s.kind) := hc 0 _ rfl
          have c1 : wr.cell? ⟨b, off + k * 3 + 1, none⟩ = some (.int .i64 s.n) := hc 1 _ rfl
          have c2 : wr.cell? ⟨b, off + k * 3 + 2, none⟩ = some (.slice s.A s.b.length s.c) := hc 2 _ rfl
          have hbl := HSB.out s (List.mem_of_getElem? hs)
          obtain ⟨hcap, hcm, hbs⟩ := HB.out s (List.mem_of_getElem? hs)
          have HBS := Lib.hid hbs
          clear hc hs hbs
          unfold maxLen at hcm
          by_cases hk0 : s.kind = 0
          · have hk0' : (s.kind == 0) = true := by simp [hk0]
            have hk1' : (s.kind == 1) = false := by simp [hk0]
            clear hk0
            go_wp2_with fail
            have hsep : 0 < s.b.length → ∀ a, s.A = some a → ¬ TwoB p g a.block := fun h0 a ha => by
              obtain ⟨b1, o1, e1, h1, _⟩ := HBS.out.2 h0
              rw [ha] at e1
              injection e1 with e1
              subst e1
              have := HI.out.pg
              rintro (hx | hx)
              · have hx : b1 = p := hx; omega
              · have hx : b1 = g := hx; omega
            refine (put_any (b := s.b) _ HI.out.hq (Rd.more (HBS.out.onlyNil HI.out.only (Nat.le_refl _)) hszr) hsep (by omega)).mono ?_
            clear hsep
            rintro e w4 ⟨rfl, hT4, hO4⟩
            obtain ⟨K, hK⟩ : ∃ K, K = min s.b.length (m - c.length) := ⟨_, rfl⟩
            rw [← hK]
            have d0 : w4.cell? ⟨b, off + k * 3 + 2, none⟩ = some (.slice s.A s.b.length s.c) := (hO4.cell (p := ⟨b, off + k * 3 + 2, none⟩) (lt_of_cell c2) (by have := HI.out.pg; rintro (hx | hx); have hx : b = p := hx; omega; have hx : b = g := hx; omega)).trans c2
            have hx0 : ¬ (K : Int) < 0 := by omega
            have hx1 : ¬ (s.b.length : Int) < K := by omega
            have HC4 := Lib.hid d0
            have HT4 := Lib.hid hT4
            have HO4 := Lib.hid hO4
            have HK := Lib.hid hK
            clear hT4 hO4 hK
            rcases Nat.lt_or_ge K s.b.length with hkl | hkl
            focus
              have hx2 : (K : Int) < s.b.length := by omega
              go_wp2_with fail
              refine (free_any _ HT4.out).mono ?_
              rintro e w5 ⟨rfl, nf, rfl⟩
              have hz : (m : Int) - ((c ++ s.b.take (m - c.length)).length : Nat) = 0 := by
                have := HK.out
                have := HI.out.hq.room
                simp [List.length_take]
                omega
              rw [hz]
              clear hz
              obtain ⟨wx, hwx⟩ : ∃ wx, wx = w4.drewN nf := ⟨_, rfl⟩
              have hOx : Only Nil w4 wx := by rw [hwx]; exact (Only.refl _ _).drewN _
              rw [← hwx]
              clear hwx d0
            rotate_left
            focus
              have hx2 : ¬ (K : Int) < s.b.length := by omega
              obtain ⟨wx, hwx⟩ : ∃ wx, wx = w4 := ⟨_, rfl⟩
              have hOx : Only Nil w4 wx := by rw [hwx]; exact Only.refl _ _
              rw [← hwx]
              rw [← hwx] at d0
              clear hwx
            all_goals
              have d1 : wx.cell? ⟨b, off + k * 3 + 2, none⟩ = some (.slice s.A s.b.length s.c) := (hOx.cell (p := ⟨b, off + k * 3 + 2, none⟩) (lt_of_cell (HC4.out)) (fun hx => hx)).trans HC4.out
              have hown6 : wx.ownsRow w.heap.size 5 1 (.slice Ai inn.length ci) inn.length (bcells inn) := own_onlyNil (own_only HI.out.hin HO4.out (fun q hq => (HI.out.ni q hq).1)) hOx
              have hrd6 : Rd wx w.heap.size 1 s.A K (bcells (s.b.take K)) := by
                have h1 : Bs w4 w.heap.size s.A s.b := Rd.only (Rd.onlyNil HBS.out HI.out.only (Nat.le_refl _)) HO4.out hszr (fun x hx => by rcases HI.out.two x hx with h | h; exact h.elim; exact h)
                have h2 := (Bs.onlyNil h1 hOx (by have := HO4.out.size; omega)).take K (by have := HK.out; omega)
                have h3 : (s.b.take K).length = K := by have := HK.out; rw [List.length_take]; omega
                unfold Bs at h2
                rwa [h3] at h2
              obtain ⟨in6, hin6⟩ : ∃ in6, in6 = inn ++ s.b.take K := ⟨_, rfl⟩
              have hNN : inn.length + K = in6.length := by have := HK.out; rw [hin6, List.length_append, List.length_take]; omega
              have hy6 : bcells inn ++ bcells (s.b.take K) = bcells in6 := by rw [hin6, bcells_append]
              have HY6 := Lib.hid hy6
              have HI6 := Lib.hid hin6
              clear hy6 hin6
              have hil := HI.out.len
              have HX := Lib.hid hOx
              have HNN := Lib.hid hNN
              have HW6 := Lib.hid hown6
              have HR6 := Lib.hid hrd6
              have m63 : inn.length + K ≤ maxLen := by unfold maxLen; have := HK.out; omega
              have mby : (inn.length + K) * 1 ≤ 140737488355328 := by have := HK.out; omega
              have mba : w.heap.size ≤ wx.heap.size := by have := HO4.out.size; have := HX.out.size; omega
              have M63 := Lib.hid m63
              have MBY := Lib.hid mby
              have MBA := Lib.hid mba
              clear hOx hNN hown6 hrd6 m63 mby mba
              go_wp2_with (at_builtin; go_must (refine wpList_append_rd _ rfl (.tmp 82) (.tmp 89) _ rfl w.heap.size 5 i0 (.int .u8 0) 1 1 Try.underlying29 hi0 hz0 hz1 hz2 rfl (by omega) (.slice Ai inn.length ci) inn.length (bcells inn) rfl HW6.out w.heap.size s.A K s.c (bcells (s.b.take K)) rfl HR6.out (bcells_one _) in6.length HNN.out (bcells in6) HY6.out M63.out MBY.out MBA.out ?_))
              intro A4 c4 w6 hc4 hown4 hgr4 hat4
              rw [HI6.out] at hc4 hown4 hat4
              have hI6 := HI.out.put HT4.out HO4.out HX.out HK.out hbl hc4 hown4 hgr4 hat4
              rw [← HI6.out] at hI6
              have HJ6 := Lib.hid hI6
              have e0 : w6.cell? ⟨b, off + k * 3, none⟩ = some (.int .i64 s.kind) := (hI6.only.cell (p := ⟨b, off + k * 3, none⟩) hbw (fun x => x)).trans ((HI.out.only.cell (p := ⟨b, off + k * 3, none⟩) hbw (fun x => x)).symm.trans c0)
              clear hI6 hc4 hown4 hgr4 hat4
              go_wp2_with fail
              go_roundw
              case rel => exact ⟨k + 1, A4, Ao, c4, co, _, out, _, by omega, by go_num, rfl, rfl, HJ6.out⟩
              case measure => simp [intOf] <;> omega
          · have hk0' : (s.kind == 0) = false := by simp [hk0]
            by_cases hk1 : s.kind = 1
            · have hk1' : (s.kind == 1) = true := by simp [hk1]
              clear hk0 hk1
              go_wp2_with fail
              refine (take_any _ _ HI.out.hq).mono ?_
              rintro e w4 ⟨⟨A3, c3, rfl, hc3, hown3, hO3⟩, hT3⟩
              obtain ⟨tk, htk⟩ : ∃ tk, tk = c.take s.n.toNat := ⟨_, rfl⟩
              rw [← htk] at hc3 hown3
              rw [← htk]
              obtain ⟨ou6, hou6⟩ : ∃ ou6, ou6 = out ++ tk := ⟨_, rfl⟩
              have hNN : out.length + tk.length = ou6.length := by rw [hou6, List.length_append]
              have hy6 : bcells out ++ bcells tk = bcells ou6 := by rw [hou6, bcells_append]
              have hle : out.length + tk.length ≤ 8000 := by
                have h1 := HI.out.len
                have h2 := congrArg List.length HI.out.eq
                have h3 : tk.length ≤ c.length := by rw [htk, List.length_take]; omega
                rw [List.length_append] at h2
                omega
              have hown6 : w4.ownsRow w.heap.size 5 1 (.slice Ao out.length co) out.length (bcells out) := own_only HI.out.hout hO3 (fun q hq hx => HI.out.no q hq (.inl hx))
              have hrd6 := Rd.of_own hown3
              have m63 : out.length + tk.length ≤ maxLen := by unfold maxLen; omega
              have mby : (out.length + tk.length) * 1 ≤ 140737488355328 := by omega
              have mba : w.heap.size ≤ w4.heap.size := by have := hO3.size; omega
              rw [htk] at hou6
              have HT3 := Lib.hid hT3
              have HO3 := Lib.hid hO3
              have HNN := Lib.hid hNN
              have HY6 := Lib.hid hy6
              have HU6 := Lib.hid hou6
              have HW6 := Lib.hid hown6
              have HR6 := Lib.hid hrd6
              have M63 := Lib.hid m63
              have MBY := Lib.hid mby
              have MBA := Lib.hid mba
              clear hT3 hO3 hNN hy6 hou6 hown6 hrd6 m63 mby mba hown3 htk hle
              go_wp2_with (at_builtin; go_must (refine wpList_append_rd _ rfl (.tmp 97) (.tmp 104) _ rfl w.heap.size 5 i0 (.int .u8 0) 1 1 Try.underlying29 hi0 hz0 hz1 hz2 rfl (by omega) (.slice Ao out.length co) out.length (bcells out) rfl HW6.out w4.heap.size A3 tk.length c3 (bcells tk) rfl HR6.out (bcells_one _) ou6.length HNN.out (bcells ou6) HY6.out M63.out MBY.out MBA.out ?_))
              intro A4 c4 w6 hc4 hown4 hgr4 hat4
              rw [HU6.out] at hc4 hown4 hat4
              have hI6 := HI.out.take HT3.out HO3.out hc4 hown4 hgr4 hat4
              rw [← HU6.out] at hI6
              have HJ6 := Lib.hid hI6
              clear hI6 hc4 hown4 hgr4 hat4
              go_wp2_with fail
              go_roundw
              case rel => exact ⟨k + 1, Ai, A4, ci, c4, inn, ou6, _, by omega, by go_num, rfl, rfl, HJ6.out⟩
              case measure => simp [intOf] <;> omega
            · have hk1' : (s.kind == 1) = false := by simp [hk1]
              clear hk0 hk1
              go_wp2_with fail
              go_roundw
              case rel => exact ⟨k + 1, Ai, Ao, ci, co, inn, out, c, by omega, by go_num, rfl, rfl, HI.out.next 0⟩
              case measure => simp [intOf] <;> omega
        · obtain rfl : k = len := by omega
          go_wp2_with fail
          refine (len_any _ HI.out.hq).mono ?_
          rintro e w4 ⟨rfl, rfl⟩
          go_wp2_with fail
          refine (peek_any _ _ HI.out.hq).mono ?_
          rintro e w5 ⟨A3, c3, rfl, hc3, hown3, hO3⟩
          rw [Int.toNat_natCast, List.take_length] at hc3 hown3
          rw [Int.toNat_natCast, List.take_length]
          have hNN : out.length + c.length = inn.length := by rw [← HI.out.eq, List.length_append]
          have hy6 : bcells out ++ bcells c = bcells inn := by rw [← HI.out.eq, bcells_append]
          have hle := HI.out.len
          have hown6 := own_onlyNil HI.out.hout hO3
          have hrd6 := Rd.of_own hown3
          have m63 : out.length + c.length ≤ maxLen := by unfold maxLen; omega
          have mby : (out.length + c.length) * 1 ≤ 140737488355328 := by omega
          have mba : w.heap.size ≤ w5.heap.size := by have := hO3.size; omega
          have HO3 := Lib.hid hO3
          have HNN := Lib.hid hNN
          have HY6 := Lib.hid hy6
          have HW6 := Lib.hid hown6
          have HR6 := Lib.hid hrd6
          have M63 := Lib.hid m63
          have MBY := Lib.hid mby
          have MBA := Lib.hid mba
          clear hO3 hNN hy6 hown6 hrd6 m63 mby mba hown3 hle
          go_wp2_with (at_builtin; go_must (refine wpList_append_rd _ rfl (.tmp 106) (.tmp 110) _ rfl w.heap.size 5 i0 (.int .u8 0) 1 1 Try.underlying29 hi0 hz0 hz1 hz2 rfl (by omega) (.slice Ao out.length co) out.length (bcells out) rfl HW6.out w5.heap.size A3 c.length c3 (bcells c) rfl HR6.out (bcells_one _) inn.length HNN.out (bcells inn) HY6.out M63.out MBY.out MBA.out ?_))
          intro A4 c4 w6 hc4 hown4 hgr4 hat4
          have hOg : Only (fun x => (Value.slice Ao out.length co).ownBlock = some x) w4 w6 := HO3.out.any.then_ (Only.of_grown hgr4)
          have hin6 := own_only HI.out.hin hOg (fun q hq hx => (HI.out.ni q hq).2 hx)
          have hq6 := HI.out.hq.only hOg (fun hx => HI.out.no p hx (.inl rfl)) (fun hx => HI.out.no g hx (.inr rfl))
          have HO6 := Lib.hid (HI.out.only.trans hOg (fun x hx => .inr (ownBlock_ge HI.out.hout hx)))
          have HQ6 := Lib.hid hq6
          have HN6 := Lib.hid hin6
          have HX6 := Lib.hid hown4
          clear hOg hq6 hin6 hown4 hgr4 hat4
          go_wp2_with fail
          refine (same_any A4 Ai c4 ci inn inn _ (Bs.of_own HX6.out).1 (Bs.of_own HN6.out).1).mono ?_
          rintro e w7 ⟨rfl, rfl⟩
          rw [beq_self_eq_true]
          go_wp2_with fail
          refine (len_any _ HQ6.out).mono ?_
          rintro e w7 ⟨rfl, rfl⟩
          go_wp2_with fail
          refine (free_any _ HQ6.out).mono ?_
          rintro e w7 ⟨rfl, nf, rfl⟩
          have hroom := HI.out.hq.room
          go_wp2_with fail
          go_ret
          refine ⟨?_, HO6.out.drewN _⟩
          have hz : ((c.length : Int) + ((m : Int) - c.length) == (m : Int)) = true := by rw [beq_iff_eq]; omega
          show Ending.returned (.bool ((c.length : Int) + ((m : Int) - c.length) == (m : Int))) = _
          rw [hz]
    · have hs' : shortB xs = false := by simpa using hs
      rw [hs'] at HSH
      clear hs hs' hlen hR hB
      go_enter Try.func3, Try.ntmps3
      go_wp2_with fail
      refine (awake_any _).mono ?_
      rintro e w1 ⟨rfl, hO1⟩
      go_wp2_with fail
      refine (newBytes_any m _ (by omega) (by omega)).mono ?_
      rintro e w2 ⟨rfl, hT, hO2⟩
      have HO := Lib.hid (hO1.thenNil hO2)
      clear hO1 hO2 hT
      go_wp2_with fail
      refine (HSH.out _ HO.out).mono ?_
      rintro e w3 ⟨rfl, rfl⟩
      go_wp2_with fail
      refine (HSH.out _ HO.out).mono ?_
      rintro e w3 ⟨rfl, rfl⟩
      go_wp2_with fail
      go_ret
      exact ⟨rfl, HO.out⟩
  · clear hlen hR hB
    by_cases hs : shortB xs = true
    · rw [hs] at HSH
      clear hs
      by_cases hl1 : n < 1
      · go_enter Try.func3, Try.ntmps3
        go_wp2_with fail
        refine (awake_any _).mono ?_
        rintro e w1 ⟨rfl, hO1⟩
        go_wp2_with fail
        refine (newBytes_no n _ (by omega)).mono ?_
        rintro e w2 ⟨rfl, rfl⟩
        go_wp2_with fail
        refine (HSH.out _ hO1).mono ?_
        rintro e w3 ⟨rfl, rfl⟩
        go_wp2_with fail
        refine (HSH.out _ hO1).mono ?_
        rintro e w3 ⟨rfl, rfl⟩
        go_wp2_with fail
        go_ret
        exact ⟨rfl, hO1⟩
      · have hl2 : 4096 < n := by omega
        go_enter Try.func3, Try.ntmps3
        go_wp2_with fail
        refine (awake_any _).mono ?_
        rintro e w1 ⟨rfl, hO1⟩
        go_wp2_with fail
        refine (newBytes_no n _ (by omega)).mono ?_
        rintro e w2 ⟨rfl, rfl⟩
        go_wp2_with fail
        refine (HSH.out _ hO1).mono ?_
        rintro e w3 ⟨rfl, rfl⟩
        go_wp2_with fail
        refine (HSH.out _ hO1).mono ?_
        rintro e w3 ⟨rfl, rfl⟩
        go_wp2_with fail
        go_ret
        exact ⟨rfl, hO1⟩
    · have hs' : shortB xs = false := by simpa using hs
      rw [hs'] at HSH
      clear hs hs'
      go_enter Try.func3, Try.ntmps3
      go_wp2_with fail
      refine (awake_any _).mono ?_
      rintro e w1 ⟨rfl, hO1⟩
      go_wp2_with fail
      refine (newBytes_no n _ (by omega)).mono ?_
      rintro e w2 ⟨rfl, rfl⟩
      go_wp2_with fail
      refine (HSH.out _ hO1).mono ?_
      rintro e w3 ⟨rfl, rfl⟩
      go_wp2_with fail
      refine (HSH.out _ hO1).mono ?_
      rintro e w3 ⟨rfl, rfl⟩
      go_wp2_with fail
      go_ret
      exact ⟨rfl, hO1⟩

set_option maxRecDepth 100000 in
theorem from_args {H : Type} {enc : TypeId × Value → H} (W : World) (base : Nat) (args : Array Value) (ds : List (DataW H)) (ps : List MemPlace)
    (hval0 : ∀ (j : Nat) t v, Try.f3.params[j]? = some t → args[j]? = some v → Value.okWide Try.prog W .any base t v)
    (hA : DataW.TrodAll enc Try.prog W 0 (fun _ => true) true Try.f3.params.toList args.toList ds ps) (_hlt : ∀ x ∈ ps, x.block < W.heap.size)
    (hsz : (DataW.weightsEach Try.prog Try.f3.params.toList ds).all (· ≤ reachBytes) = true) : Calls Try.prog 3 args W (LawPost W) := by
  have hval := hval0
  rw [Try.params3] at hA hval hsz
  obtain ⟨v0, vs0, d0, ds0, p0, q0, hargs, rfl, rfl, h0, r0⟩ := trodAll_cons hA
  obtain ⟨v1, vs1, d1, ds1, p1, q1, rfl, rfl, rfl, h1, r1⟩ := trodAll_cons r0
  obtain ⟨rfl, rfl, rfl⟩ := trodAll_nil r1
  obtain rfl : args = #[v0, v1] := by cases args; simp_all
  obtain ⟨A, len, cap, xs, rfl, hl, hm, hR, hB⟩ := open_steps (hval 0 _ v0 rfl rfl) h0
  obtain ⟨n, rfl, rfl, rfl, wn⟩ := open_int Try.underlying3 (hval 1 _ v1 rfl rfl) h1
  exact walk A len cap xs n W hl hm hR hB

set_option maxRecDepth 100000 in
theorem over : Rows.ringOrderRow.holds Try.pinned (OpenSpec.ofChange Rows.ringOrderSpec) :=
  OpenClaim.holds_of_wide 3 Try.f3 rfl rfl rfl rfl rfl rfl rfl ⟨rfl, rfl, rfl, rfl, rfl⟩ rfl rfl rfl rfl rfl (by kernel_rfl) Try.func3 (by kernel_rfl)
    (of_decide_eq_true (by kernel_rfl)) (by unfold Func.isWrapper; first | (rw [if_pos (by decide +kernel)]; kernel_rfl) | (rw [if_neg (by decide +kernel)]; exact ⟨rfl, rfl⟩))
    (fun os started H enc _ => law_lifted (f := 3) (F := Try.f3) (s := Rows.ringOrderSpec) os started H enc (by kernel_rfl) Try.func3 rfl rfl (by kernel_rfl) (by kernel_rfl)
      (fun ds hd => by match ds, hd with | [_, _], _ => rfl)
      (ChangeSpec.witness6 (enc := enc) (C := Try.checked) false ⟨#[], #[.slice none 0 0, .int .i64 0], []⟩ 8 (by kernel_rfl) (by kernel_rfl) (by kernel_rfl) (by kernel_rfl))
      (fun W base args ds ps hv hA hlt hsz => from_args W base args ds ps hv hA hlt hsz))

/-- The statement. -/
theorem proved : Rows.RingOrderSaid := over

end ringOrder
end Go.Proofs.Ytljfblnpgeconaa
