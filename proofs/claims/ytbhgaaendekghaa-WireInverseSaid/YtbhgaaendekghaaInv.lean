/-
  A region that draws its order, walked ONCE FOR EACH OPERATION: a fact J about what has come up (L), the values that were left (vs) and the world, which every operation keeps, whenever it comes up.
  No conditions: general laws.
-/
import Derived.Orders
import Derived.RegionTactic
import Derived.StillTail
import Derived.Test.YtbhgaaendekghaaByt
namespace Go.Proofs.Ytbhgaaendekghaa
open Go Go.RowKit

/-- 'f', but v at i. -/
def upd {α : Type} (f : Nat → α) (i : Nat) (v : α) : Nat → α := fun j => if j = i then v else f j

/-- An operation of a region: its number, its slot, and operations that surely came up ahead of it. -/
abbrev Ent := Nat × Option Tmp × List Nat

/-- The frame with the value of each operation of the list in its slot. -/
def putAll (a : Act) : List Ent → (Nat → Value) → Act
  | [], _ => a
  | x :: xs, vs => putAll (a.put x.2.1 (vs x.1)) xs vs

def okD : List Ent → Bool
  | [] => true
  | x :: xs => xs.all (fun y => y.1 != x.1 && (x.2.1.isNone || y.2.1 != x.2.1)) && okD xs

theorem putAll_congr (xs : List Ent) {vs us : Nat → Value} (h : ∀ x ∈ xs, vs x.1 = us x.1) (a : Act) : putAll a xs vs = putAll a xs us := by
  induction xs generalizing a with
  | nil => rfl
  | cons x xs ih =>
    simp only [putAll]
    rw [h x (List.mem_cons_self ..), ih fun y hy => h y (List.mem_cons_of_mem _ hy)]

theorem putAll_out (xs : List Ent) (d : Option Tmp) (v : Value) (vs : Nat → Value) (a : Act) (h : ∀ x ∈ xs, ∀ t, d = some t → x.2.1 ≠ some t) : (putAll a xs vs).put d v = putAll (a.put d v) xs vs := by
  induction xs generalizing a with
  | nil => rfl
  | cons x xs ih =>
    simp only [putAll]
    rw [ih _ fun y hy => h y (List.mem_cons_of_mem _ hy)]
    congr 1
    exact (Act.put_comm a (x := d) (y := x.2.1) v (vs x.1) fun t ht => h x (List.mem_cons_self ..) t ht).symm

theorem put_put (a : Act) (d : Option Tmp) (v u : Value) : (a.put d v).put d u = a.put d u := by
  cases d with
  | none => rfl
  | some d => simp [Act.put]

theorem putAll_put (xs : List Ent) (hok : okD xs = true) (vs : Nat → Value) (v : Value) (x : Ent) (hx : x ∈ xs) (a : Act) : (putAll a xs vs).put x.2.1 v = putAll a xs (upd vs x.1 v) := by
  induction xs generalizing a with
  | nil => cases hx
  | cons y ys ih =>
    simp only [okD, Bool.and_eq_true, List.all_eq_true, bne_iff_ne, ne_eq, Bool.or_eq_true, Option.isNone_iff_eq_none] at hok
    simp only [putAll]
    rcases List.mem_cons.1 hx with rfl | hx
    · rw [putAll_out ys x.2.1 v vs _ fun z hz t ht => by
        rcases (hok.1 z hz).2 with h1 | h1
        · rw [h1] at ht; cases ht
        · rw [← ht]; exact h1]
      rw [put_put, show upd vs x.1 v x.1 = v by simp [upd]]
      exact putAll_congr ys (fun z hz => by simp [upd, (hok.1 z hz).1]) _
    · rw [ih hok.2 hx]
      have : upd vs x.1 v y.1 = vs y.1 := by
        have h1 := (hok.1 x hx).1
        unfold upd
        rw [if_neg fun e => h1 (Eq.symm e)]
      rw [this]

theorem put_own (a : Act) (d : Tmp) : a.put (some d) (a.tmps.getD d undef) = a := by
  obtain ⟨ts, ds⟩ := a
  simp only [Act.put]
  congr 1
  apply Array.ext
  · simp
  · intro i h1 h2
    rw [Array.getElem_setIfInBounds]
    split
    · rename_i e; subst e; simp [h2]
    · rfl

theorem putAll_own (xs : List Ent) (hok : okD xs = true) (a : Act) : ∃ vs, putAll a xs vs = a := by
  induction xs with
  | nil => exact ⟨fun _ => undef, rfl⟩
  | cons x xs ih =>
    simp only [okD, Bool.and_eq_true, List.all_eq_true, bne_iff_ne, ne_eq, Bool.or_eq_true] at hok
    obtain ⟨vs, h⟩ := ih hok.2
    obtain ⟨v, hv⟩ : ∃ v, a.put x.2.1 v = a := by
      cases x.2.1 with
      | none => exact ⟨undef, rfl⟩
      | some d => exact ⟨_, put_own a d⟩
    refine ⟨upd vs x.1 v, ?_⟩
    simp only [putAll]
    rw [show upd vs x.1 v x.1 = v by simp [upd], hv, putAll_congr xs (us := vs) (fun z hz => by simp [upd, (hok.1 z hz).1])]
    exact h

/-- The check: from each of the states ls, in n steps, whatever comes up: an entry of X, with its operations ahead of it; and at last 'fin'. -/
def chk (md : Region.Mode) (ops : Array Oper) (X : List Ent) (fin : List Bool) : Nat → List (List Bool) → Bool
  | 0, ls => ls.all fun l => l == fin
  | f + 1, ls =>
    (ls.all fun l => !(Region.ready md ops l.toArray).isEmpty && (Region.ready md ops l.toArray).all fun i =>
      decide (i < l.length) && X.any fun x => x.1 == i && x.2.1 == ((ops[i]?).bind (·.dst)) && x.2.2.all fun j => l.getD j false) &&
    chk md ops X fin f (ls.flatMap fun l => (Region.ready md ops l.toArray).map fun i => l.set i true).eraseDups

section
variable {P : Program} {ops : Array Oper} {Q : Exit → Act → World → Prop} {md : Region.Mode}

theorem wpAny_inv (X : List Ent) (hX : okD X = true) (J : (Nat → Bool) → (Nat → Value) → World → Prop) (a0 : Act)
    (hstep : ∀ x ∈ X, ∀ (L : Nat → Bool) (vs : Nat → Value) (w : World), J L vs w → L x.1 = false → (∀ j ∈ x.2.2, L j = true) →
      wpOp P ops Q x.1 (fun a' w' => ∃ v, a' = (putAll a0 X vs).put x.2.1 v ∧ J (upd L x.1 true) (upd vs x.1 v) w') (putAll a0 X vs) w)
    (fin : List Bool) (g : Nat) (hfin : ∀ vs w, J (fun j => fin.getD j false) vs w → wpAny P md ops Q g fin.toArray (putAll a0 X vs) w) :
    ∀ (n : Nat) (ls : List (List Bool)), chk md ops X fin n ls = true → ∀ l ∈ ls, ∀ vs w, J (fun j => l.getD j false) vs w → wpAny P md ops Q (n + g) l.toArray (putAll a0 X vs) w := by
  intro n
  induction n with
  | zero =>
    intro ls hc l hl vs w hJ
    simp only [chk, List.all_eq_true, beq_iff_eq] at hc
    have := hc l hl
    subst this
    rw [Nat.zero_add]
    exact hfin vs w hJ
  | succ n ih =>
    intro ls hc l hl vs w hJ
    simp only [chk, Bool.and_eq_true, List.all_eq_true] at hc
    obtain ⟨h1, h2⟩ := hc
    obtain ⟨h3, h4⟩ := h1 l hl
    rw [show n + 1 + g = (n + g) + 1 by omega]
    refine ⟨fun h0 => by rw [h0] at h3; simp at h3, fun i hi => ?_⟩
    obtain ⟨hlt, h5⟩ := h4 i hi
    have hlt : i < l.length := by simpa using hlt
    obtain ⟨x, hx, h6⟩ := List.any_eq_true.1 h5
    simp only [Bool.and_eq_true, beq_iff_eq, List.all_eq_true] at h6
    obtain ⟨⟨rfl, hd⟩, hdep⟩ := h6
    have hun := (mem_ready.1 hi).1
    have h0 : l.getD x.1 false = false := by
      simp only [Array.getD_eq_getD_getElem?, List.getElem?_toArray] at hun
      rw [List.getElem?_eq_getElem hlt] at hun
      rw [List.getD_eq_getElem?_getD, List.getElem?_eq_getElem hlt]
      simpa using hun
    refine wpOp_mono (fun a' w' hh => ?_) (hstep x hx _ vs w hJ h0 hdep)
    obtain ⟨v, rfl, hJ'⟩ := hh
    rw [putAll_put X hX vs v x hx a0, List.setIfInBounds_toArray]
    refine ih _ h2 (l.set x.1 true) ?_ _ _ ?_
    · rw [List.mem_eraseDups]
      exact List.mem_flatMap.2 ⟨l, hl, List.mem_map.2 ⟨x.1, hi, rfl⟩⟩
    · have e : (fun j => (l.set x.1 true).getD j false) = upd (fun j => l.getD j false) x.1 true := by
        funext j
        simp only [upd, List.getD_eq_getElem?_getD, List.getElem?_set]
        by_cases hj : x.1 = j
        · subst hj; simp [hlt]
        · rw [if_neg hj, if_neg (fun e => hj e.symm)]
      rw [e]
      exact hJ'

/-- What is known of the value of an operation, once it came up. -/
abbrev VPred := Value → World → Prop
def At (Ps : List VPred) (j : Nat) : VPred := Ps.getD j fun _ _ => True
/-- Just this value. -/
def Cst (c : Value) : VPred := fun v _ => v = c
/-- Nothing is known. -/
def Any : VPred := fun _ _ => True
/-- Blocks below the base. -/
def Low (base : Nat) : Nat → Prop := fun x => x < base
/-- A slice of the call's own with these bytes. -/
def OwnB (e : TypeId) (base : Nat) (l : List UInt8) : VPred := fun v w => ∃ A c, v = .slice A l.length c ∧ l.length ≤ c ∧ w.ownsRow base e 1 (.slice A l.length c) l.length (bcells l)
/-- An empty slice without room, of the call's own. -/
def Emp (e : TypeId) (base : Nat) : VPred := fun v w => ∃ g, v = .slice (some ⟨g, 0, none⟩) 0 0 ∧ base ≤ g ∧ Blk w g e #[]
/-- A slice that reads these bytes. -/
def RdB (B : Nat) (l : List UInt8) : VPred := fun v w => ∃ A c, v = .slice A l.length c ∧ l.length ≤ c ∧ Bs w B A l

/-- Two slices of the call's own that lie in different blocks. -/
def Ap (v v' : Value) : Prop := ∀ q, v.ownBlock = some q → v'.ownBlock ≠ some q
theorem OwnB.lt {e : TypeId} {base : Nat} {l : List UInt8} {v : Value} {w : World} (h : OwnB e base l v w) {q : Nat} (hq : v.ownBlock = some q) : q < w.heap.size := by
  obtain ⟨A, c, rfl, _, h3⟩ := h
  exact own_lt h3 hq
theorem Emp.lt {e : TypeId} {base : Nat} {v : Value} {w : World} (h : Emp e base v w) {q : Nat} (hq : v.ownBlock = some q) : q < w.heap.size := by
  obtain ⟨g, rfl, _, h3⟩ := h
  have : g = q := by simpa [Value.ownBlock] using hq
  subst this
  exact h3.lt
theorem OwnB.ge {e : TypeId} {base : Nat} {l : List UInt8} {v : Value} {w : World} (h : OwnB e base l v w) {q : Nat} (hq : v.ownBlock = some q) : base ≤ q := by
  obtain ⟨A, c, rfl, _, h3⟩ := h
  exact ownBlock_ge h3 hq
theorem Ap.symm {v v' : Value} (h : Ap v v') : Ap v' v := fun q hq he => h q he hq
theorem Ap.new {v v' : Value} {H : Nat} (h : v.ownBlock = some H) (h' : ∀ q, v'.ownBlock = some q → q < H) : Ap v v' := fun q hq he => by
  have := h' q he
  rw [h] at hq
  injection hq with hq
  omega
theorem Ap.grow {v v' : Value} {g H : Nat} (h : v.ownBlock = some g ∨ v.ownBlock = some H) (h1 : Ap (.slice (some ⟨g, 0, none⟩) 0 0) v') (h2 : ∀ q, v'.ownBlock = some q → q < H) : Ap v v' := by
  rcases h with h | h
  · intro q hq
    rw [h] at hq
    exact h1 q (by injection hq with hq; simp [Value.ownBlock, hq])
  · exact Ap.new h h2
/-- Kept where only blocks in T turn. -/
def Stays (T : Nat → Prop) (p : VPred) : Prop := ∀ v w w', Only T w w' → p v w → p v w'
theorem Stays.cst {T : Nat → Prop} (c : Value) : Stays T (Cst c) := fun _ _ _ _ h => h
theorem Stays.any {T : Nat → Prop} : Stays T Any := fun _ _ _ _ h => h
theorem Stays.own {T : Nat → Prop} {e : TypeId} {base : Nat} {l : List UInt8} (hT : ∀ x, T x → x < base) : Stays T (OwnB e base l) := fun _ _ _ hO h => by
  obtain ⟨A, c, h1, h2, h3⟩ := h
  exact ⟨A, c, h1, h2, own_only h3 hO fun q hq hx => by have := ownBlock_ge h3 hq; have := hT q hx; omega⟩
theorem Stays.ownNil {e : TypeId} {base : Nat} {l : List UInt8} : Stays Nil (OwnB e base l) := fun _ _ _ hO h => by
  obtain ⟨A, c, h1, h2, h3⟩ := h
  exact ⟨A, c, h1, h2, own_onlyNil h3 hO⟩
theorem Stays.emp {T : Nat → Prop} {e : TypeId} {base : Nat} (hT : ∀ x, T x → x < base) : Stays T (Emp e base) := fun _ _ _ hO h => by
  obtain ⟨g, h1, h2, h3⟩ := h
  exact ⟨g, h1, h2, h3.only hO fun hx => by have := hT g hx; omega⟩

theorem At.stays {T : Nat → Prop} {Ps : List VPred} (h : ∀ p ∈ Ps, Stays T p) (j : Nat) : Stays T (At Ps j) := by
  intro v w w' hO hv
  unfold At at hv ⊢
  rw [List.getD_eq_getElem?_getD] at hv ⊢
  cases e : Ps[j]? with
  | none => trivial
  | some p =>
    rw [e] at hv
    exact h p (List.mem_of_getElem? e) v w w' hO hv

/-- An operation that yields in whatever world, taken first; its slot is named. -/
theorem take_first {i : Nat} {oi : Oper} {v : Value} {fuel : Nat} {listed : Array Bool} {a : Act} {w : World} (d : Option Tmp) (hi : ops[i]? = some oi) (hd : oi.dst = d)
    (hs : Region.noSelect ops = true) (hf : Region.free md ops listed i = true) (hr : (Region.ready md ops listed).contains i = true)
    (hQ : ∀ c a w, Q (.panic c) (a.put oi.dst v) w → Q (.panic c) a w) (hy : Yields P ops oi v a)
    (h : wpAny P md ops Q fuel (listed.setIfInBounds i true) (a.put d v) w) : wpAny P md ops Q (fuel + 1) listed a w := by
  subst hd
  exact wpAny_take hi hs hf hr hQ hy h

/-- From a state of the region on (some operations have been taken first): the n operations of X in whatever order, the last g in the text's. -/
theorem wpAny_inv2 {l : List Oper} {a0 : Act} {w : World} {listed : Array Bool} {fuel : Nat} (X : List Ent) (n g m : Nat) (l0 : List Bool) (T : Nat → Prop) (Ps : List VPred) (I : (Nat → Bool) → (Nat → Value) → World → Prop)
    (hl : listed = l0.toArray) (hf : fuel = n + g) (hX : okD X = true) (hc : chk .any l.toArray X (List.replicate m true ++ List.replicate g false) n [l0] = true)
    (hq : Region.seqB .any l.toArray g m (List.replicate m true ++ List.replicate g false).toArray = true) (hn : m + g = l.length)
    (h0 : ∀ j, l0.getD j false = true → ∀ v u, At Ps j v u)
    (hst : ∀ p ∈ Ps, Stays T p) (hI : ∀ vs, I (fun j => l0.getD j false) vs w)
    (hstep : ∀ x ∈ X, ∀ (L : Nat → Bool) (vs : Nat → Value) (w : World), I L vs w → (∀ j, L j = true → At Ps j (vs j) w) → L x.1 = false → (∀ j ∈ x.2.2, L j = true) →
      wpOp P l.toArray Q x.1 (fun a' w' => ∃ v, a' = (putAll a0 X vs).put x.2.1 v ∧ Only T w w' ∧ I (upd L x.1 true) (upd vs x.1 v) w' ∧ At Ps x.1 v w') (putAll a0 X vs) w)
    (hfin : ∀ (L : Nat → Bool) vs w, I L vs w → (∀ j, j < m → L j = true) → (∀ j, j < m → At Ps j (vs j) w) → wpList P l.toArray Q (l.drop m) (putAll a0 X vs) w) : wpAny P .any l.toArray Q fuel listed a0 w := by
  subst hl hf
  obtain ⟨vs, hvs⟩ := putAll_own X hX a0
  have := wpAny_inv (P := P) (ops := l.toArray) (Q := Q) (md := .any) X hX (fun L vs w => I L vs w ∧ ∀ j, L j = true → At Ps j (vs j) w) a0
    (fun x hx L vs w hJ h0 hd => wpOp_mono (fun a' w' hh => by
      obtain ⟨v, rfl, hO, hI', hv⟩ := hh
      refine ⟨v, rfl, hI', fun j hj => ?_⟩
      by_cases e : j = x.1
      · subst e
        simpa [upd] using hv
      · have h1 : L j = true := by simpa [upd, e] using hj
        have h2 : upd vs x.1 v j = vs j := by simp [upd, e]
        rw [h2]
        exact At.stays hst j _ _ _ hO (hJ.2 j h1)) (hstep x hx L vs w hJ.1 hJ.2 h0 hd))
    (List.replicate m true ++ List.replicate g false) g (fun vs w h => by
      have hL : ∀ j, j < m → (List.replicate m true ++ List.replicate g false).getD j false = true := fun j hj => by
        rw [List.getD_eq_getElem?_getD, List.getElem?_append_left (by simpa using hj)]
        simp [hj]
      have h1 := hfin _ vs w h.1 hL (fun j hj => h.2 j (hL j hj))
      have hg : (l.drop m).length = g := by rw [List.length_drop]; omega
      rw [← hg]
      exact wpAny_of_seq (l.drop m) m _ _ _ (fun j => by simp [List.getElem?_drop]) (by rw [hg]; exact hq) h1)
    n _ hc l0 (by simp) vs w ⟨hI vs, fun j hj => h0 j hj _ _⟩
  rw [hvs] at this
  exact this

/-- THE BEGINNING: the first n operations in whatever order, the other g in the text's. -/
theorem wp_region_inv {id : Nat} {l : List Oper} {a0 : Act} {w : World} (X : List Ent) (n g : Nat) (T : Nat → Prop) (Ps : List VPred) (I : (Nat → Bool) → (Nat → Value) → World → Prop)
    (hm : P.follows .mixedOrders = true) (hX : okD X = true) (hc : chk .any l.toArray X (List.replicate n true ++ List.replicate g false) n [List.replicate (n + g) false] = true)
    (hq : Region.seqB .any l.toArray g n (List.replicate n true ++ List.replicate g false).toArray = true) (hn : n + g = l.length)
    (hst : ∀ p ∈ Ps, Stays T p) (hI : ∀ vs, I (fun _ => false) vs w.drew)
    (hstep : ∀ x ∈ X, ∀ (L : Nat → Bool) (vs : Nat → Value) (w : World), I L vs w → (∀ j, L j = true → At Ps j (vs j) w) → L x.1 = false → (∀ j ∈ x.2.2, L j = true) →
      wpOp P l.toArray Q x.1 (fun a' w' => ∃ v, a' = (putAll a0 X vs).put x.2.1 v ∧ Only T w w' ∧ I (upd L x.1 true) (upd vs x.1 v) w' ∧ At Ps x.1 v w') (putAll a0 X vs) w)
    (hfin : ∀ (L : Nat → Bool) vs w, I L vs w → (∀ j, j < n → L j = true) → (∀ j, j < n → At Ps j (vs j) w) → wpList P l.toArray Q (l.drop n) (putAll a0 X vs) w) : (Code.region id l.toArray true).wp P Q a0 w := by
  refine wp_region_any hm ?_
  have e : (fun j => (List.replicate (n + g) false).getD j false) = fun _ => false := by
    funext j
    rw [List.getD_eq_getElem?_getD, List.getElem?_replicate]
    split <;> rfl
  exact wpAny_inv2 X n g n (List.replicate (n + g) false) T Ps I (by simp [hn]) (by simp [hn]) hX hc hq hn (fun j hj => by rw [congrFun e j] at hj; cases hj) hst (by rw [e]; exact hI) hstep hfin

/-- One operation, whenever it comes up. -/
theorem inv_step {i : Nat} {a : Act} {w : World} {d : Option Tmp} {J : Value → World → Prop} (o : Oper) (ho : ops[i]? = some o) (_hd : o.dst = d)
    (h : ∀ K : Act → World → Prop, (∀ v w', J v w' → K (a.put d v) w') → if Region.wanted o (yielded ops a.tmps) = true then Oper.wp P o a w K Q else K (a.put o.dst undef) w) :
    wpOp P ops Q i (fun a' w' => ∃ v, a' = a.put d v ∧ J v w') a w :=
  wpOp_step ho fun K hK => h K fun v _ hj => hK _ _ ⟨v, rfl, hj⟩
end

/-- append to an empty slice without room: no old memory turns. -/
theorem run_append_new {P : Program} (w : World) (base : Nat) (t ty e : TypeId) (i : TypeInfo) (z : Value) (size bytes : Nat) (ht : P.underlying t = some (.slice e)) (hi : P.info? e = some i) (hz : i.zero = some z)
    (hsize : i.size = size) (hby : i.bytes = bytes) (hzs : z.cells.size = size) (hsz : 0 < size)
    (g : Nat) (hg : Blk w g e #[]) (hb : base ≤ g)
    (B : Nat) (A : Option Addr) (m c : Nat) (news : List Value) (hr : Rd w B size A m news) (h1 : ∀ u ∈ news, u.oneCell' = true)
    (h63 : m ≤ maxLen) (hbytes : m * bytes ≤ 140737488355328) (hbase : base ≤ w.heap.size) :
    ∃ A' c' w', m ≤ c' ∧ (Builtin.append_ #[t, t] ty #[.slice (some ⟨g, 0, none⟩) 0 0, .slice A m c]).run P w = .ok (.slice A' m c') w' ∧ w'.ownsRow base e size (.slice A' m c') m news ∧ Only Nil w w' ∧ ((Value.slice A' m c').ownBlock = some g ∨ (Value.slice A' m c').ownBlock = some w.heap.size) := by
  have hown : w.ownsRow base e size (.slice (some ⟨g, 0, none⟩) 0 0) 0 [] := ⟨by simp, .inr ⟨g, 0, #[], rfl, hb, hg, Nat.le_refl _, Nat.zero_le _, by simp, by simp⟩⟩
  rcases A with _ | ad
  · have hm : m = 0 := by
      rcases Nat.eq_zero_or_pos m with h0 | h0
      · exact h0
      · obtain ⟨_, _, h, _⟩ := hr.2 h0
        cases h
    subst hm
    have hn : news = [] := List.eq_nil_of_length_eq_zero (by simpa using hr.1)
    subst hn
    exact ⟨_, 0, w, Nat.le_refl _, run_append_of_nil w base t ty e i size ht hi _ 0 [] hown c, hown, Only.refl _ _, .inl rfl⟩
  · rcases Nat.eq_zero_or_pos m with h0 | h0
    · subst h0
      have hn : news = [] := List.eq_nil_of_length_eq_zero (by simpa using hr.1)
      subst hn
      have hrun := run_append_room (P := P) w t ty e i ht hi g 0 0 #[] hg ad 0 c [] (by simp) (by simp) (by simp) (Nat.le_refl _) (by simp)
      refine ⟨_, 0, _, Nat.le_refl _, hrun, ⟨by simp, .inr ⟨g, 0, _, rfl, hb, setRow_heap w g #[] _ e _ hg, Nat.le_refl _, Nat.zero_le _, by simp, by simp⟩⟩, ⟨rfl, rfl, rfl, by simp, fun k hk _ => ?_⟩, .inl rfl⟩
      by_cases hkg : k = g
      · subst hkg
        rw [setRow_heap w k #[] _ e _ hg, hg]
        simp
      · exact setRow_other w g k _ hkg
    · have hcells : ∀ j u, news[j]? = some u → w.cell? (ad.add j) = some u := by
        intro j u hu
        obtain ⟨b, off, h, _, hc⟩ := hr.2 h0
        injection h with h
        subst h
        rw [add_at]
        exact hc j u hu
      obtain ⟨v', w', hrun, h2, h3, _, h5⟩ := run_append_own_at (P := P) w base t ty e i z size bytes ht hi hz hsize hby hzs hsz _ 0 [] hown ad m c news hr.1 hcells h1 (by simpa using h63) (by simpa using hbytes) hbase
      have hrg := run_append_grow (P := P) w t ty e i z ht hi hz ⟨g, 0, none⟩ 0 0 [] (by simp) (fun j u hu => by simp at hu) ad m c news (by rw [hsize]; exact hr.1) hcells (by omega) (by simp only [maxLen] at h63; omega) (growslice_fits (by omega) (by rw [hby]; simpa using hbytes))
      rw [hrun] at hrg
      injection hrg with _ hw'
      obtain ⟨A', c', rfl, hc'⟩ := own_form h2
      refine ⟨A', c', w', by omega, ?_, ?_, ?_, ?_⟩
      · rw [hrun, Nat.zero_add]
      · simpa using h2
      · rw [hw']
        exact ((Only.refl _ _).drew).alloc _
      · simpa [Value.ownBlock] using h5

theorem step_append_new {P : Program} {ops : Array Oper} {o : Oper} {a : Act} {w : World} {K : Act → World → Prop} {Q : Exit → Act → World → Prop} {E : Prop} (hgd : o.guard = none) (s x : Operand) (t : TypeId)
    (ho : o.op = .call { callee := .builtin .append, args := #[s, x], argTypes := #[t, t] })
    (base : Nat) (e : TypeId) (i : TypeInfo) (z : Value) (size bytes : Nat) (ht : P.underlying t = some (.slice e)) (hi : P.info? e = some i) (hz : i.zero = some z)
    (hsize : i.size = size) (hby : i.bytes = bytes) (hzs : z.cells.size = size) (hsz : 0 < size)
    (g : Nat) (hs : a.eval s = .slice (some ⟨g, 0, none⟩) 0 0) (hg : Blk w g e #[]) (hb : base ≤ g)
    (B : Nat) (A : Option Addr) (m c : Nat) (news : List Value) (hx : a.eval x = .slice A m c) (hr : Rd w B size A m news) (h1 : ∀ u ∈ news, u.oneCell' = true)
    (h63 : m ≤ maxLen) (hbytes : m * bytes ≤ 140737488355328) (hbase : base ≤ w.heap.size)
    (h : ∀ A' c' w', m ≤ c' → w'.ownsRow base e size (.slice A' m c') m news → Only Nil w w' → ((Value.slice A' m c').ownBlock = some g ∨ (Value.slice A' m c').ownBlock = some w.heap.size) → K (a.put o.dst (.slice A' m c')) w') :
    if Region.wanted o (yielded ops a.tmps) = true then Oper.wp P o a w K Q else E := by
  have hw : Region.wanted o (yielded ops a.tmps) = true := by simp [Region.wanted, hgd]
  rw [if_pos hw]
  obtain ⟨A', c', w', hc', hrun, h2, h3, h4⟩ := run_append_new (P := P) w base t o.type e i z size bytes ht hi hz hsize hby hzs hsz g hg hb B A m c news hr h1 h63 hbytes hbase
  unfold Oper.wp execOp
  simp only [ho, resolve, invoke, builtin, Sem.run_bind, Sem.run_pure, Result.andThen_ok, List.map_toArray, List.map_cons, List.map_nil, hs, hx, hrun]
  exact h A' c' w' hc' h2 h3 h4

def NoU8 (cs : Array Value) : Prop := ∀ (i : Nat) (z : Int), cs[i]? ≠ some (Value.int .u8 z)
/-- Bytes do not lie in a box. -/
theorem Bs.box {w w' : World} {B g : Nat} {A : Option Addr} {l : List UInt8} {t : TypeId} {cs : Array Value} (h : Bs w B A l) (hg : Blk w g t cs) (hcs : NoU8 cs) (hO : Only (One g) w w') (hB : B ≤ w.heap.size) : Bs w' B A l :=
  h.sep hO hB fun hn a ha hx => by
    obtain ⟨b, off, e, _, hc⟩ := h.2 hn
    rw [e] at ha
    injection ha with ha
    subst ha
    have hx : b = g := hx
    subst hx
    have h0 := hc 0 (.int .u8 ((l[0]'hn).toNat : Int)) (by rw [bcells_get, List.getElem?_eq_getElem hn]; rfl)
    rw [hg.cell] at h0
    exact hcs _ _ h0

end Go.Proofs.Ytbhgaaendekghaa
