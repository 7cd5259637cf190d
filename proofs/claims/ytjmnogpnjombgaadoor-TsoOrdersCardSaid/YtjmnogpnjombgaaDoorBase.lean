/- Common lemmas for the laws of a seat: what a call leaves of old memory ('Below'), and the last step of a law's row: it returned true, old memory is as it was. -/
import Derived.Test.YtjmnogpnjombgaaDoorRows
import Derived.WalkKit
import Derived.ProofKit
import Derived.OpenShut
import Derived.SizedLaws
import Derived.Lib.Hide
namespace Go.Proofs.YtjmnogpnjombgaaDoor
set_option maxRecDepth 100000
open Go.ChangeShapes Go.WideShapes Go.ChangeAt Go.RowKit

theorem base_own : ownKnob Tryd.prog.godebug = none := by kernel_rfl
theorem base_laidOut : laidOutB Tryd.prog = true := by kernel_rfl

theorem bcell {W w1 : World} (hb : Below W.heap.size W w1) : (∀ b o, b < W.heap.size → w1.cell? ⟨b, o, none⟩ = W.cell? ⟨b, o, none⟩) ∧ (∀ b o, b < W.heap.size → w1.frozen? ⟨b, o, none⟩ = W.frozen? ⟨b, o, none⟩) :=
  ⟨fun b o h => hb.cell (p := ⟨b, o, none⟩) h, fun b o h => hb.frozen (p := ⟨b, o, none⟩) h⟩
theorem step_below {w W w1 : World} (h : Below w.heap.size w W) (hb : Below W.heap.size W w1) : Below w.heap.size w w1 := h.trans (hb.mono h.size)
theorem lt_below {B n : Nat} {W w1 : World} (hb : Below B W w1) (h : n < W.heap.size) : n < w1.heap.size := Nat.lt_of_lt_of_le h hb.size
theorem keep_cell {W w1 : World} {b o : Nat} {v : Value} (hb : Below W.heap.size W w1) (hlt : b < W.heap.size) (h : W.cell? ⟨b, o, none⟩ = some v) : w1.cell? ⟨b, o, none⟩ = some v :=
  (hb.cell (p := ⟨b, o, none⟩) hlt).trans h

section
variable {H : Type} {enc : TypeId × Value → H}
/-- All arguments read as they did, where below the old heap's end nothing has turned. -/
theorem trodAll_stays {P : Program} (hl : laidOutB P = true) {W W' : World} (hb : Below W.heap.size W W') (ts : List TypeId) :
    ∀ (vs : List Value) (ds : List (DataW H)) (ps : List MemPlace),
    ts.all (fun t => P.readableRec t && decide (t < P.types.size)) = true → (∀ x ∈ ps, x.block < W.heap.size) →
    DataW.TrodAll enc P W 0 (fun _ => true) true ts vs ds ps → DataW.TrodAll enc P W' 0 (fun b => decide (b < W.heap.size)) true ts vs ds ps := by
  induction ts with
  | nil => intro vs ds ps _ _ h; cases vs <;> cases ds <;> first | exact h | exact h.elim
  | cons t ts ih =>
    intro vs ds ps hr hlt h
    obtain ⟨v, vs', d, ds', p, q, rfl, rfl, rfl, h1, h2⟩ := trodAll_cons h
    simp only [List.all_cons, Bool.and_eq_true, decide_eq_true_eq] at hr
    exact trodAll_cons_mk (Below.trod hl hr.1.1 hr.1.2 h1 hb (fun x hx => hlt x (List.mem_append_left _ hx))) (ih _ _ _ hr.2 (fun x hx => hlt x (List.mem_append_right _ hx)) h2)

/-- THE LAST STEP OF A LAW: it returned true, and old memory is as it was. -/
theorem law_post {f : Func} {s : ChangeSpec} {W W' : World} {args : Array Value} {ds gs : List (DataW H)} {before : List MemPlace} (tb : TypeId)
    (hv : s.vars = []) (hrt : f.resultTypes = #[tb]) (hub : Tryd.prog.underlying tb = some .bool)
    (hW : DataW.Whole enc Tryd.prog f.params.toList s.vars false W args.toList ds gs before)
    (hf : s.fn H (ds ++ gs) = { results := [.lit (.bool true)], args := ds })
    (hr : f.params.toList.all (fun t => Tryd.prog.readableRec t && decide (t < Tryd.prog.types.size)) = true)
    (hb : Below W.heap.size W W') : s.post enc Tryd.prog f false true false false W args (.bool true) W' := by
  have hW' := hW
  obtain ⟨p, q, hA, hV, rfl, hfz, hnd⟩ := hW
  rw [hv] at hV
  obtain ⟨rfl, rfl⟩ := trodVars_none hV
  refine ⟨ds, [], p ++ [], [], p, [], hW', ?_, ?_, ?_, hb.frame _, fun h => by cases h⟩
  · rw [hf, hrt]
    exact trodAll_mk1 (shut_bool hub _)
  · rw [hf]
    exact trodAll_stays base_laidOut hb _ _ _ _ hr (fun x hx => hW'.lt x (List.mem_append_left _ hx)) hA
  · rw [hf, hv]
    rfl

theorem trodAll_length {P : Program} {W : World} (ts : List TypeId) : ∀ (vs : List Value) (ds : List (DataW H)) (ps : List MemPlace), DataW.TrodAll enc P W 0 (fun _ => true) true ts vs ds ps → ds.length = ts.length := by
  induction ts with
  | nil => intro vs ds ps h; cases vs <;> cases ds <;> first | rfl | exact h.elim
  | cons t ts ih =>
    intro vs ds ps h
    obtain ⟨v, vs', d, ds', p, q, rfl, rfl, rfl, h1, h2⟩ := trodAll_cons h
    simp [ih _ _ _ h2]

set_option maxRecDepth 100000 in
/-- THE ROW's STEP of a law: the witness, and the contract over opened arguments, give what the row asks. -/
theorem law_lifted {os : Os} {f : FuncId} {fn : Func} {s : ChangeSpec} (started : os.Started) (noInit : Tryd.checked.prog.inits.idxOf? f = none) (hfn : Tryd.checked.prog.funcs[f]? = some fn)
    (witness : ∃ (w : World) (tape : Tape) (i : Input), w.os = os ∧ (w.forCall tape i).Shaped Tryd.checked.prog ∧ i.vars = [] ∧ Input.okWide Tryd.checked.prog (w.forCall tape i) .any w.heap.size f i ∧
      s.pre6 enc Tryd.checked.prog fn [] false (w.forCall tape i).memory i.args ∧ ({} : Assume).holds Tryd.checked.prog (lone (Frame.enter Tryd.checked.prog f i.args .normal) [] (w.forCall tape i)))
    (tb : TypeId) (hv : s.vars = []) (hrt : fn.resultTypes = #[tb]) (hub : Tryd.prog.underlying tb = some .bool)
    (hf : ∀ ds : List (DataW H), ds.length = fn.params.size → s.fn H (ds ++ []) = { results := [.lit (.bool true)], args := ds })
    (hr : fn.params.toList.all (fun t => Tryd.prog.readableRec t && decide (t < Tryd.prog.types.size)) = true)
    (contract : ∀ (W : World) (base : Nat) (args : Array Value) (ds : List (DataW H)) (p : List MemPlace),
      (∀ (j : Nat) t v, fn.params[j]? = some t → args[j]? = some v → Value.okWide Tryd.prog W .any base t v) →
      DataW.TrodAll enc Tryd.prog W 0 (fun _ => true) true fn.params.toList args.toList ds p → (∀ x ∈ p, x.block < W.heap.size) →
      (DataW.weightsEach Tryd.prog fn.params.toList ds).all (· ≤ reachBytes) = true →
      Calls Tryd.prog f args W fun e W' => e = .returned (.bool true) ∧ Below W.heap.size W W') :
    ReturnsInHanded {} Tryd.checked os f .any (s.pre6 enc Tryd.prog fn [] false) (s.post enc Tryd.prog fn false true false false) := by
  refine returnsInHanded_of_change_sized (C := Tryd.checked) base_own started noInit hfn witness ?_
  intro W base args ds gs before hval hW _ hsz0 _
  have hW' := hW
  obtain ⟨p, q, hA, hV, rfl, _, _⟩ := hW
  have hvt : s.plain.varTypes Tryd.checked.prog = [] := by
    unfold DataSpec.varTypes
    simp [ChangeSpec.plain, hv]
  rw [hv] at hV
  obtain ⟨rfl, rfl⟩ := trodVars_none hV
  rw [hvt] at hsz0
  simp only [List.append_nil] at hsz0
  have hlen : ds.length = fn.params.size := by simpa using trodAll_length _ _ _ _ hA
  refine (contract W base args ds p hval hA (fun x hx => hW'.lt x (List.mem_append_left _ hx)) hsz0).mono fun e W' ⟨he, hb⟩ => ?_
  exact ⟨_, he, law_post tb hv hrt hub hW' (hf ds hlen) hr hb⟩
end
end Go.Proofs.YtjmnogpnjombgaaDoor
