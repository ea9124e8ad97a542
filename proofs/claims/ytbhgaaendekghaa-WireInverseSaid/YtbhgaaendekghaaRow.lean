/-
  The last step of a row whose call made new memory: 'post' from 'Below'; the row's own frame for a law.
  No conditions: general laws.
-/
import Derived.Test.YtbhgaaendekghaaRows
import Derived.Test.YtbhgaaendekghaaMem
import Derived.ProofKit
import Derived.OpenShut
import Derived.SizedLaws
namespace Go.Proofs.Ytbhgaaendekghaa
open Go.ChangeShapes Go.WideShapes Go.ChangeAt Go.RowKit

theorem own : ownKnob Try.prog.godebug = none := by kernel_rfl

section
variable {H : Type} {enc : TypeId × Value → H} {P : Program}
/-- 'post_of_same' for a call of which 'Below' alone is known. -/
theorem post_of_below {f : Func} {s : ChangeSpec} {apart fresh handsOn again : Bool} {W W' : World} {args : Array Value} {v : Value} {ds gs : List (DataW H)} {before pa pv : List MemPlace}
    (hW : DataW.Whole enc P f.params.toList s.vars apart W args.toList ds gs before)
    (hres : ∀ (b : Nat) (sp : Nat → Bool) (hd : Bool), DataW.TrodAll enc P W' b sp hd f.resultTypes.toList (v.resultList f.resultTypes.size) (s.fn H (ds ++ gs)).results [])
    (hargs : ∀ sp : Nat → Bool, (∀ p ∈ before, sp p.block = true) → DataW.TrodAll enc P W' 0 sp true f.params.toList args.toList (s.fn H (ds ++ gs)).args pa)
    (hvars : ∀ sp : Nat → Bool, (∀ p ∈ before, sp p.block = true) → DataW.TrodVars enc P W' sp s.vars (s.fn H (ds ++ gs)).vars pv)
    (hps : before = pa ++ pv) (hb : Below W.heap.size W W')
    (hok : ∀ (j : Nat) (t : TypeId) (r : Value), f.resultTypes[j]? = some t → (v.resultList f.resultTypes.size)[j]? = some r → Value.okWide P W' .any 0 t r) :
    s.post enc P f apart fresh handsOn again W args v W' := by
  have hlt : ∀ p ∈ before, p.block < W.heap.size := fun p hp => hW.lt p hp
  have hold : ∀ p ∈ before, (fun b => decide (b < W.heap.size)) p.block = true := fun p hp => by simpa using hlt p hp
  refine ⟨ds, gs, before, [], pa, pv, hW, hres _ _ _, hargs _ hold, hvars _ hold, World.keptBut_mono (fun p hp => ⟨hp, ?_⟩) (hb.frame (· ∈ before)), fun _ => ?_⟩
  · rw [hps, List.mem_append] at hp
    exact Or.inr hp
  · obtain ⟨_, _, _, _, _, hz, hn⟩ := hW
    refine ⟨hok, _, _, ([] ++ pa) ++ pv, ⟨[] ++ pa, pv, trodAll_append (hargs _ (fun _ _ => rfl)) (hres _ _ _), hvars _ (fun _ _ => rfl), rfl, ?_, ?_⟩, ?_⟩
    · intro b off hp
      have hin : MemPlace.cell b off ∈ before := by rw [hps]; simpa using hp
      rw [hb.frozen (hlt _ hin)]
      exact hz b off hin
    · intro ha
      have := hn ha
      rw [hps] at this
      simpa using this
    · intro p hp _
      rw [hps]
      simpa using hp
end

/-- What a law's walk shows: true; only new memory. -/
def LawPost (w : World) (e : Ending) (w' : World) : Prop := e = .returned (.bool true) ∧ Only Nil w w'

section
variable {H : Type} {enc : TypeId × Value → H} {P : Program}
/-- Arguments behind a call that made new memory alone read as they did. -/
theorem trodAll_below {W W' : World} (hl : laidOutB P = true) (hb : Below W.heap.size W W') {ts : List TypeId} (hr : ts.all (fun t => P.readableRec t && decide (t < P.types.size)) = true)
    {vs : List Value} {ds : List (DataW H)} {ps : List MemPlace} (h : DataW.TrodAll enc P W 0 (fun _ => true) true ts vs ds ps) (hlt : ∀ x ∈ ps, x.block < W.heap.size)
    {sp : Nat → Bool} (hs : ∀ x ∈ ps, sp x.block = true) : DataW.TrodAll enc P W' 0 sp true ts vs ds ps := by
  induction ts generalizing vs ds ps with
  | nil => obtain ⟨rfl, rfl, rfl⟩ := trodAll_nil h; exact trodAll_mk0
  | cons t ts ih =>
    obtain ⟨v, vs', d, ds', p, q, rfl, rfl, rfl, h1, h2⟩ := trodAll_cons h
    simp only [List.all_cons, Bool.and_eq_true, decide_eq_true_eq] at hr
    exact trodAll_cons_mk (WideElems.Trod_stays hl hr.1.1 hr.1.2 h1 (fun x hx => hb.same (hlt x (List.mem_append_left _ hx))) (fun x hx => hs x (List.mem_append_left _ hx)))
      (ih hr.2 h2 (fun x hx => hlt x (List.mem_append_right _ hx)) (fun x hx => hs x (List.mem_append_right _ hx)))

theorem trodAll_length {W : World} {base : Nat} {spare : Nat → Bool} {held : Bool} {ts : List TypeId} {vs : List Value} {ds : List (DataW H)} {ps : List MemPlace}
    (h : DataW.TrodAll enc P W base spare held ts vs ds ps) : vs.length = ts.length ∧ ds.length = ts.length := by
  induction ts generalizing vs ds ps with
  | nil => obtain ⟨rfl, rfl, rfl⟩ := trodAll_nil h; exact ⟨rfl, rfl⟩
  | cons t ts ih =>
    obtain ⟨v, vs', d, ds', p, q, rfl, rfl, rfl, h1, h2⟩ := trodAll_cons h
    have := ih h2
    simp only [List.length_cons, this.1, this.2, and_self]
end

set_option maxRecDepth 100000 in
/-- A law's row, from its walk over the opened arguments. -/
theorem law_lifted {f : FuncId} {F : Func} {s : ChangeSpec} {conds : List PathCond} (os : Os) (started : os.Started) (H : Type) (enc : TypeId × Value → H)
    (noInit : Try.checked.prog.inits.idxOf? f = none) (hfn : Try.checked.prog.funcs[f]? = some F)
    (hres : F.resultTypes = #[4]) (hvars : s.vars = []) (hl : laidOutB Try.prog = true)
    (hr : F.params.toList.all (fun t => Try.prog.readableRec t && decide (t < Try.prog.types.size)) = true)
    (hspec : ∀ ds : List (DataW H), ds.length = F.params.size → s.fn H ds = { results := [.lit (.bool true)], args := ds })
    (witness : ∃ (w : World) (tape : Tape) (i : Input), w.os = os ∧ (w.forCall tape i).Shaped Try.checked.prog ∧ i.vars = [] ∧ Input.okWide Try.checked.prog (w.forCall tape i) .any w.heap.size f i ∧
      s.pre6 enc Try.checked.prog F conds false (w.forCall tape i).memory i.args ∧ ({} : Assume).holds Try.checked.prog (lone (Frame.enter Try.checked.prog f i.args .normal) [] (w.forCall tape i)))
    (walk : ∀ (W : World) (base : Nat) (args : Array Value) (ds : List (DataW H)) (ps : List MemPlace),
      (∀ (j : Nat) t v, F.params[j]? = some t → args[j]? = some v → Value.okWide Try.prog W .any base t v) →
      DataW.TrodAll enc Try.prog W 0 (fun _ => true) true F.params.toList args.toList ds ps → (∀ x ∈ ps, x.block < W.heap.size) →
      (DataW.weightsEach Try.prog F.params.toList ds).all (· ≤ reachBytes) = true → Calls Try.prog f args W (LawPost W)) :
    ReturnsInHanded {} Try.checked os f .any (s.pre6 enc Try.prog F conds false) (s.post enc Try.prog F false true false false) := by
  refine returnsInHanded_of_change_sized (C := Try.checked) own started noInit hfn witness ?_
  intro W base args ds gs before hval hW _ hsz0 _
  have hW' := hW
  have hlt : ∀ x ∈ before, x.block < W.heap.size := fun x hx => hW'.lt x hx
  obtain ⟨p, q, hA0, hV, hbe, _, _⟩ := hW
  have hA : DataW.TrodAll enc Try.prog W 0 (fun _ => true) true F.params.toList args.toList ds p := hA0
  rw [hvars] at hV
  obtain ⟨rfl, rfl⟩ := trodVars_none hV
  rw [List.append_nil] at hbe
  subst hbe
  have hvt : s.plain.varTypes Try.prog = [] := by
    have h0 : s.plain.vars = [] := hvars
    simp [DataSpec.varTypes, h0]
  have hsz : (DataW.weightsEach Try.prog F.params.toList ds).all (· ≤ reachBytes) = true := by
    have h1 : (DataW.weightsEach Try.prog (F.params.toList ++ s.plain.varTypes Try.prog) (ds ++ [])).all (· ≤ reachBytes) = true := hsz0
    rw [hvt, List.append_nil, List.append_nil] at h1
    exact h1
  have hlen := (trodAll_length hA).2
  refine (walk W base args ds before hval hA hlt hsz).mono fun e W' ⟨he, hg⟩ => ?_
  subst he
  have hb := hg.belowNil
  have e0 : s.fn H (ds ++ []) = { results := [.lit (.bool true)], args := ds } := by rw [List.append_nil]; exact hspec ds (by rw [hlen]; simp)
  have er : (s.fn H (ds ++ [])).results = [.lit (.bool true)] := by rw [e0]
  have ea : (s.fn H (ds ++ [])).args = ds := by rw [e0]
  have ev : (s.fn H (ds ++ [])).vars = [] := by rw [e0]
  refine ⟨_, rfl, post_of_below (pa := before) (pv := []) hW' ?_ ?_ ?_ (by simp) hb ?_⟩
  · intro b sp hd
    rw [er, hres]
    exact trodAll_cons_mk (shut_bool Try.underlying4 _) trodAll_mk0
  · intro sp hsp
    rw [ea]
    exact trodAll_below hl hb hr hA hlt hsp
  · intro sp _
    rw [ev, hvars]
    rfl
  · exact ok_one hres rfl (okWide_bool_mk Try.underlying4 _)

end Go.Proofs.Ytbhgaaendekghaa
