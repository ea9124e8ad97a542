/-
  The link in memory: a packet is appended to a side's row.
  Conditions: the link lies in memory as 'LK' says.
-/
import Derived.Test.YtfichoekjjcjiaaStK1
import Derived.BigRegion
namespace Go.Proofs.Ytfichoekjjcjiaa
open Go.RowKit

theorem pk_info : (Try.prog.info? 33).map (fun i => (i.zero, i.size, i.bytes)) = some (some (.agg #[.int .i64 0, .int .i64 0, .int .i64 0, .int .i64 0, .bool false, .slice none 0 0]), 6, 64) := by kernel_rfl
theorem zP_nu : ∀ u ∈ (Value.agg #[.int .i64 0, .int .i64 0, .int .i64 0, .int .i64 0, .bool false, .slice none 0 0]).cells, NU u := by
  intro u hu k
  simp only [Value.cells, List.mem_toArray, List.mem_cons, List.not_mem_nil, or_false] at hu
  rcases hu with rfl | rfl | rfl | rfl | rfl | rfl <;> simp

/-- A packet in a new block. -/
def NewP (base : Nat) (ps : List Value) : VPred := fun v w => ∃ gn, v = .slice (some ⟨gn, 0, none⟩) 1 1 ∧ base ≤ gn ∧ Blk w gn 33 ps.toArray
theorem Stays.newp {T : Nat → Prop} {base : Nat} {ps : List Value} (hT : ∀ x, T x → x < base) : Stays T (NewP base ps) := fun _ _ _ hO h => by
  obtain ⟨g, h1, h2, h3⟩ := h
  exact ⟨g, h1, h2, h3.only hO fun hx => by have := hT g hx; omega⟩
/-- Ahead of the append of a packet, and behind it. -/
def AppI (B0 : Nat) (v0 : Value) (m : Nat) (xs news : List Value) (wc : World) : Bool → Value → World → Prop
  | false, _, u => Only Nil wc u
  | true, v, u => ∃ A5 c5, v = .slice A5 (m + 1) c5 ∧ m + 1 ≤ c5 ∧ u.ownsRow B0 33 6 (.slice A5 (m + 1) c5) (m + 1) (xs ++ news) ∧ NoB u (.slice A5 (m + 1) c5) ∧
      (∀ q, (Value.slice A5 (m + 1) c5).ownBlock = some q → v0.ownBlock = some q ∨ wc.heap.size ≤ q) ∧ Only (fun q => v0.ownBlock = some q) wc u
section
variable {B0 : Nat} {v0 v : Value} {m : Nat} {xs news : List Value} {wc u u' : World} {b : Bool}
theorem AppI.keep (h : AppI B0 v0 m xs news wc b v u) (hO : Only Nil u u') : AppI B0 v0 m xs news wc b v u' := by
  cases b
  · exact Only.thenNil (show Only Nil wc u from h) hO
  · obtain ⟨A5, c5, h1, h2, h3, h4, h5, h6⟩ := h
    exact ⟨A5, c5, h1, h2, own_onlyNil h3 hO, h4.only h3 hO (fun _ _ hx => hx), h5, h6.thenNil hO⟩
theorem AppI.only (h : AppI B0 v0 m xs news wc b v u) : Only (fun q => v0.ownBlock = some q) wc u := by
  cases b
  · exact (show Only Nil wc u from h).any
  · obtain ⟨A5, c5, h1, h2, h3, h4, h5, h6⟩ := h
    exact h6
theorem AppI.size (h : AppI B0 v0 m xs news wc b v u) : wc.heap.size ≤ u.heap.size := h.only.size
theorem AppI.zero (h : Only Nil wc u) : AppI B0 v0 m xs news wc false v u := h
theorem AppI.new {A5 : Option Addr} {c5 : Nat} (h : Only Nil wc u) (hc : m + 1 ≤ c5) (hown : u'.ownsRow B0 33 6 (.slice A5 (m + 1) c5) (m + 1) (xs ++ news)) (hg : u.grownBy u' v0.ownBlock)
    (hat : (Value.slice A5 (m + 1) c5).ownBlock = v0.ownBlock ∨ (Value.slice A5 (m + 1) c5).ownBlock = some u.heap.size) (hno : NoB u' (.slice A5 (m + 1) c5)) : AppI B0 v0 m xs news wc true (.slice A5 (m + 1) c5) u' := by
  refine ⟨A5, c5, rfl, hc, hown, hno, fun q hq => ?_, h.any.then_ (Only.of_grown hg)⟩
  rcases hat with h1 | h1
  · exact .inl (by rw [← h1]; exact hq)
  · rw [h1] at hq
    injection hq with hq
    exact .inr (by have := h.size; omega)
theorem AppI.box {base n size : Nat} {e t : TypeId} {ys : List Value} {g : Nat} {cs : Array Value} (h : AppI B0 v0 m xs news wc b v u) (hown : wc.ownsRow base e size v0 n ys) (hg : Blk wc g t cs) (hne : e ≠ t := by decide) : Blk u g t cs :=
  hg.only h.only (fun hx => own_blk_ne hown hg hne hx)
theorem Bs.row {w w' : World} {B : Nat} {A : Option Addr} {l : List UInt8} {base n size : Nat} {e : TypeId} {ys : List Value} {v0 : Value} (h : Bs w B A l) (hown : w.ownsRow base e size v0 n ys) (hno : NoB w v0) (hO : Only (fun q => v0.ownBlock = some q) w w') (hB : B ≤ w.heap.size) : Bs w' B A l :=
  h.sep hO hB fun hn a ha hx => by
    obtain ⟨b, off, e1, hb, hc⟩ := h.2 hn
    rw [e1] at ha
    injection ha with ha
    subst ha
    have h0 := hc 0 (.int .u8 ((l[0]'hn).toNat : Int)) (by rw [bcells_get, List.getElem?_eq_getElem hn]; rfl)
    rcases hown.2 with ⟨rfl, _⟩ | ⟨g', cap, cur, rfl, _, hh, _⟩
    · cases hx
    · have hq : g' = b := by injection hx
      subst hq
      have hcell := cell_of_row w g' (off + 0) cur e (0, 0) hh
      rw [hcell] at h0
      exact hno g' rfl cur e (0, 0) hh _ (Array.mem_of_getElem? h0) _ rfl
end
theorem own_base_le {w : World} {base n size : Nat} {e : TypeId} {v : Value} {xs : List Value} (h : w.ownsRow base e size v n xs) {q : Nat} (hq : v.ownBlock = some q) : base ≤ q := by
  rcases h.2 with ⟨rfl, _⟩ | ⟨g, cap, cur, rfl, hb, _⟩
  · cases hq
  · have : g = q := by simpa [Value.ownBlock] using hq
    omega
theorem PB.row {w w' : World} {A : Option Addr} {c : Nat} {p : Pk} {base n size : Nat} {e : TypeId} {ys : List Value} {v0 : Value} (h : PB w w.heap.size A c p) (hown : w.ownsRow base e size v0 n ys) (hno : NoB w v0) (hO : Only (fun q => v0.ownBlock = some q) w w') : PB w' w'.heap.size A c p :=
  ⟨(h.data.row hown hno hO (Nat.le_refl _)).up hO.size, h.c⟩
theorem EB.row {w w' : World} {l : Loc} {x : E} {base n size : Nat} {e : TypeId} {ys : List Value} {v0 : Value} (h : EB w w.heap.size l x) (hown : w.ownsRow base e size v0 n ys) (hno : NoB w v0) (hO : Only (fun q => v0.ownBlock = some q) w w') : EB w' w'.heap.size l x :=
  ⟨(h.out.row hown hno hO (Nat.le_refl _)).up hO.size, (h.inn.row hown hno hO (Nat.le_refl _)).up hO.size, h.co, h.ci⟩

/-- A packet is appended to the row of the acting side, and the row's slice stored. -/
theorem LK.post {w u w' : World} {B0 g i : Nat} {x y : Sd} {sx sy : SC} {wrong : Bool} {A5 Ap : Option Addr} {c5 cp : Nat} {sp : Pk} (h : LK w B0 g i x sx y sy wrong)
    (hO5 : Only (fun q => (Value.slice sx.P x.sent.length sx.c).ownBlock = some q) w u)
    (hown : u.ownsRow B0 33 6 (.slice A5 (x.sent.length + 1) c5) (x.sent.length + 1) (sx.rows.flatMap PR.cells ++ pcells Ap cp sp)) (hno : NoB u (.slice A5 (x.sent.length + 1) c5))
    (hat : ∀ q, (Value.slice A5 (x.sent.length + 1) c5).ownBlock = some q → (Value.slice sx.P x.sent.length sx.c).ownBlock = some q ∨ w.heap.size ≤ q)
    (hp : PB w w.heap.size Ap cp sp) (hO : Only (One g) u w')
    (hb : Blk w' g 68 (larr i { x with sent := x.sent ++ [sp] } { sx with P := A5, c := c5, rows := sx.rows ++ [⟨Ap, cp, sp⟩] } y sy wrong)) :
    LK w' B0 g i { x with sent := x.sent ++ [sp] } { sx with P := A5, c := c5, rows := sx.rows ++ [⟨Ap, cp, sp⟩] } y sy wrong := by
  have hbu : Blk u g 68 (larr i x sx y sy wrong) := h.box.only hO5 (fun hx => own_blk_ne h.fx.row h.box (by decide) hx)
  have hx : Side u B0 { x with sent := x.sent ++ [sp] } { sx with P := A5, c := c5, rows := sx.rows ++ [⟨Ap, cp, sp⟩] } := by
    refine ⟨h.fx.eb.row h.fx.row h.fx.no hO5, ?_, ?_, ?_, ?_⟩
    · show u.ownsRow B0 33 6 (.slice A5 (x.sent ++ [sp]).length c5) (x.sent ++ [sp]).length ((sx.rows ++ [(⟨Ap, cp, sp⟩ : PR)]).flatMap PR.cells)
      rw [List.length_append, List.length_singleton, List.flatMap_append, List.flatMap_singleton]
      exact hown
    · show NoB u (.slice A5 (x.sent ++ [sp]).length c5)
      rw [List.length_append, List.length_singleton]
      exact hno
    · show (sx.rows ++ [(⟨Ap, cp, sp⟩ : PR)]).map PR.p = x.sent ++ [sp]
      rw [List.map_append, h.fx.map]
      rfl
    · intro r hr
      rcases List.mem_append.1 hr with hr | hr
      · exact (h.fx.pb r hr).row h.fx.row h.fx.no hO5
      · rw [List.mem_singleton] at hr
        subst hr
        exact hp.row h.fx.row h.fx.no hO5
  have hy : Side u B0 y sy := ⟨h.fy.eb.row h.fx.row h.fx.no hO5, own_only h.fy.row hO5 (fun q hq hx => h.ap q hx hq), h.fy.no.only h.fy.row hO5 (fun q hq hx => h.ap q hx hq), h.fy.map, fun r hr => (h.fy.pb r hr).row h.fx.row h.fx.no hO5⟩
  refine ⟨hb, h.new, hx.box hbu (larr_no _ _ _ _ _ _) (by decide) hO, hy.box hbu (larr_no _ _ _ _ _ _) (by decide) hO, ?_⟩
  intro q hq he
  have hl : (x.sent ++ [sp]).length = x.sent.length + 1 := by rw [List.length_append]; rfl
  have hq' : (Value.slice A5 (x.sent.length + 1) c5).ownBlock = some q := by rw [← hl]; exact hq
  rcases hat q hq' with h1 | h1
  · exact h.ap q h1 he
  · exact absurd (own_lt h.fy.row he) (by omega)

end Go.Proofs.Ytfichoekjjcjiaa
