/- A law over the two tables of package isa and the names of package obj (XCard, with a table more): what the row's list gives, a world for the witness, the row's step, the card. -/
import Derived.Test.YtmhfpjnkjlhbpaaGreatDoorIsaRef
import Derived.Test.YtmhfpjnkjlhbpaaGreatDoorGrow
import Derived.Test.YtmhfpjnkjlhbpaaGreatDoorObjMay
import Derived.Test.YtmhfpjnkjlhbpaaGreatDoorCards
import Derived.Test.YtmhfpjnkjlhbpaaGreatDoorTie
namespace Go.Proofs.YtmhfpjnkjlhbpaaGreatDoor
open Go.ChangeShapes Go.WideShapes Go.ChangeAt Go.RowKit
set_option linter.unusedVariables false
set_option maxRecDepth 100000

section
variable {H : Type} {enc : TypeId × Value → H} {P : Program} {w : World} {base : Nat} {sp : Nat → Bool} {held : Bool} {fuel : Nat} {t e : TypeId} {n : Nat} {cs : List Value} {p : List MemPlace}
theorem arr_at (ht : P.underlying t = some (.array n e)) (hce : P.cellsOf e = 1) (hct : P.cellsOf t = n) {ds : List (DataW H)}
    (h : DataW.trod enc P w base sp held fuel t cs = some (.agg ds, p)) (i : Nat) (hi : i < n) : cs.length = n ∧ ∃ c d q m, cs[i]? = some c ∧ ds[i]? = some d ∧ DataW.trod enc P w base sp held m e [c] = some (d, q) := by
  obtain ⟨xs, m, _, hx, hl, hxl, hg⟩ := DataW.trod_array ht h
  have g := hg i hi
  rw [hce, Nat.mul_one] at g
  rw [hct] at hl
  refine ⟨hl, cs[i]'(by omega), (xs[i]'(by omega)).1, (xs[i]'(by omega)).2, m, List.getElem?_eq_getElem (by omega), ?_, ?_⟩
  · have hd : ds = xs.map (·.1) := by
      have := congrArg Prod.fst hx
      simpa using this
    rw [hd, List.getElem?_map, List.getElem?_eq_getElem (by omega)]
    rfl
  · rw [List.drop_eq_getElem_cons (by omega)] at g
    rw [List.getElem?_eq_getElem (by omega)] at g
    exact g

theorem ints_of_arr {k : IntKind} {zs : List Int} (ht : P.underlying t = some (.array n e)) (he : P.underlying e = some (.int k)) (hce : P.cellsOf e = 1) (hct : P.cellsOf t = n)
    (h : DataW.trod enc P w base sp held fuel t cs = some (.agg (zs.map fun z => .lit (.int k z)), p)) (i : Nat) (hi : i < n) : cs[i]? = some (.int k (zs.getD i 0)) := by
  obtain ⟨_, c, d, q, m, h1, h2, h3⟩ := arr_at ht hce hct h i hi
  obtain ⟨z, e1, e2, _⟩ := DataW.trod_int he h3
  simp only [List.cons.injEq, and_true] at e1
  simp only [Prod.mk.injEq] at e2
  rw [List.getElem?_map, e2.1] at h2
  obtain ⟨z', h4, h5⟩ := Option.map_eq_some_iff.1 h2
  injection h5 with h5
  injection h5 with _ h5
  rw [h1, e1, List.getD_eq_getElem?_getD, h4, ← h5]
  rfl

theorem strs_of_arr {ss : List ByteArray} (ht : P.underlying t = some (.array n e)) (he : P.underlying e = some .string) (hce : P.cellsOf e = 1) (hct : P.cellsOf t = n)
    (h : DataW.trod enc P w base sp held fuel t cs = some (.agg (ss.map fun s => .lit (.string s.data.toList)), p)) (i : Nat) (hi : i < n) : cs[i]? = some (.string (ss.getD i ⟨#[]⟩)) := by
  obtain ⟨_, c, d, q, m, h1, h2, h3⟩ := arr_at ht hce hct h i hi
  obtain ⟨s, e1, e2, _⟩ := DataW.trod_string he h3
  simp only [List.cons.injEq, and_true] at e1
  simp only [Prod.mk.injEq] at e2
  rw [List.getElem?_map, e2.1] at h2
  obtain ⟨s', h4, h5⟩ := Option.map_eq_some_iff.1 h2
  injection h5 with h5
  injection h5 with h5
  have : s' = s := by
    cases s'
    cases s
    simp only [ByteArray.mk.injEq]
    exact Array.ext' h5
  rw [h1, e1, List.getD_eq_getElem?_getD, h4, this]
  rfl
end

theorem gUses : Tryz.prog.globalNamed "deadlatch/isa.uses" = some 0 := by kernel_rfl
theorem gNames : Tryz.prog.globalNamed "deadlatch/isa.names" = some 1 := by kernel_rfl
theorem gObj : Tryz.prog.globalNamed "deadlatch/obj.names" = some 2 := by kernel_rfl
theorem gObjT : (Tryz.prog.globals[2]?).map (·.type) = some 235 := by kernel_rfl
theorem gUsesT : (Tryz.prog.globals[0]?).map (·.type) = some 196 := by kernel_rfl
theorem gNamesT : (Tryz.prog.globals[1]?).map (·.type) = some 226 := by kernel_rfl

theorem tab_of {W : World} (h : laidMet Tryz.prog [("deadlatch/isa.uses", Rows.laid_deadlatch_isa_uses), ("deadlatch/isa.names", Rows.laid_deadlatch_isa_names), ("deadlatch/obj.names", Rows.laid_deadlatch_obj_names)] W) : Tab W ∧ ONam W := by
  obtain ⟨ps, ⟨g, t, cs, fuel, p, q, hg, ht, hvar, hd, ⟨g', t', cs', fuel', p', q', hg', ht', hvar', hd', ⟨g2, t2, cs2, fuel2, p2, q2, hg2, ht2, hvar2, hd2, _, _⟩, _⟩, _⟩, _⟩ := h
  obtain rfl := Option.some.inj (gObj.symm.trans hg2)
  obtain rfl := Option.some.inj (gObjT.symm.trans ht2)
  obtain rfl := Option.some.inj (gUses.symm.trans hg)
  obtain rfl := Option.some.inj (gUsesT.symm.trans ht)
  obtain rfl := Option.some.inj (gNames.symm.trans hg')
  obtain rfl := Option.some.inj (gNamesT.symm.trans ht')
  have a : ∀ i, i < 28 → W.cell? ⟨0, i, none⟩ = some (.int .i64 (useN i)) := fun i hi => by
    have h1 := ints_of_arr (zs := useL) (k := .i64) Tryz.underlying196 Tryz.underlying3 (by kernel_rfl) (by kernel_rfl) hd i hi
    have h2 := World.var?_cell gUses hvar i
    exact h2.trans (by rw [← Array.getElem?_toList]; exact h1)
  have b : ∀ i, i < 28 → W.cell? ⟨1, i, none⟩ = some (.string (nmS i)) := fun i hi => by
    have h1 := strs_of_arr (ss := nmL) Tryz.underlying226 Tryz.underlying9 (by kernel_rfl) (by kernel_rfl) hd' i hi
    have h2 := World.var?_cell gNames hvar' i
    exact h2.trans (by rw [← Array.getElem?_toList]; exact h1)
  have c : ∀ i, i < 16 → W.cell? ⟨2, i, none⟩ = some (.string (onS i)) := fun i hi => by
    have h1 := strs_of_arr (ss := onL) Tryz.underlying235 Tryz.underlying9 (by kernel_rfl) (by kernel_rfl) hd2 i hi
    have h2 := World.var?_cell gObj hvar2 i
    exact h2.trans (by rw [← Array.getElem?_toList]; exact h1)
  exact ⟨⟨World.block_lt_of_cell? W _ (b 0 (by decide)), a, b⟩, World.block_lt_of_cell? W _ (c 0 (by decide)), c⟩

def relay (cs : Array Value) : Obj → Obj
  | .cells _ t frozen => .cells cs t frozen
  | o => o
/-- A settled world in which the two tables hold what their initialisers lay. -/
noncomputable def laidWorld (os : Os) : World :=
  { World.holding Tryz.prog os ⟨#[], #[], []⟩ with heap := (((World.holding Tryz.prog os ⟨#[], #[], []⟩).heap.modify 0 (relay (useL.map fun z => Value.int .i64 z).toArray)).modify 1 (relay (nmL.map Value.string).toArray)).modify 2 (relay (onL.map Value.string).toArray) }

abbrev theLaid : List (String × DataW Unit) := [("deadlatch/isa.uses", Rows.laid_deadlatch_isa_uses), ("deadlatch/isa.names", Rows.laid_deadlatch_isa_names), ("deadlatch/obj.names", Rows.laid_deadlatch_obj_names)]

section
variable {H : Type} {enc : TypeId × Value → H}
/-- THE ROW's STEP of a law over the tables: the witness, and the contract over opened arguments in a world that holds the tables, give what the row asks. -/
theorem card_lifted {os : Os} {F : Stop.Interp} {f : FuncId} {fn : Func} {s : ChangeSpec} (started : os.Started) (noInit : Tryz.checked.prog.inits.idxOf? f = none) (hfn : Tryz.checked.prog.funcs[f]? = some fn)
    (witness : ∃ (w : World) (tape : Tape) (i : Input), w.os = os ∧ (w.forCall tape i).Shaped Tryz.checked.prog ∧ i.vars = [] ∧ Input.okWide Tryz.checked.prog (w.forCall tape i) .any w.heap.size f i ∧
      (OpenSpec.ofChange s).preRow enc Tryz.checked.prog fn [] false theLaid (w.forCall tape i).memory i.args ∧ ({} : Assume).holds Tryz.checked.prog (lone (Frame.enter Tryz.checked.prog f i.args .normal) [] (w.forCall tape i)))
    (tb : TypeId) (hv : s.vars = []) (hrt : fn.resultTypes = #[tb]) (hub : Tryz.prog.underlying tb = some .bool)
    (hf : ∀ ds : List (DataW H), ds.length = fn.params.size → s.fn H (ds ++ []) = { results := [.lit (.bool true)], args := ds })
    (hr : fn.params.toList.all (fun t => Tryz.prog.readableRec t && decide (t < Tryz.prog.types.size)) = true)
    (contract : ∀ (W : World) (base : Nat) (args : Array Value) (ds : List (DataW H)) (p : List MemPlace), Tab W → ONam W →
      (∀ (j : Nat) t v, fn.params[j]? = some t → args[j]? = some v → Value.okWide Tryz.prog W .any base t v) →
      DataW.TrodAll enc Tryz.prog W 0 (fun _ => true) true fn.params.toList args.toList ds p → (∀ x ∈ p, x.block < W.heap.size) →
      (DataW.weightsEach Tryz.prog fn.params.toList ds).all (· ≤ reachBytes) = true →
      Calls Tryz.prog f args W fun e W' => e = .returned (.bool true) ∧ Below W.heap.size W W') :
    ReturnsInHanded {} Tryz.checked os f .any ((OpenSpec.ofChange s).preRow enc Tryz.prog fn [] false theLaid) (((OpenSpec.ofChange s).at F).post enc Tryz.prog fn false true false false) := by
  refine returnsInHanded_of_row (C := Tryz.checked) (s := OpenSpec.ofChange s) base_own started noInit hfn witness ?_
  intro W base args ds gs before hval hW _ _ hsz0 hL _ _
  have hW : DataW.Whole enc Tryz.prog fn.params.toList s.vars false W args.toList ds gs before := hW
  have hW' := hW
  obtain ⟨p, q, hA, hV, rfl, _, _⟩ := hW
  have hvt : s.plain.varTypes Tryz.checked.prog = [] := by
    unfold DataSpec.varTypes
    simp [ChangeSpec.plain, hv]
  rw [hv] at hV
  obtain ⟨rfl, rfl⟩ := trodVars_none hV
  have hsz0 : (DataW.weightsEach Tryz.checked.prog (fn.params.toList ++ s.plain.varTypes Tryz.checked.prog) (ds ++ [])).all (· ≤ reachBytes) = true := hsz0
  rw [hvt] at hsz0
  simp only [List.append_nil] at hsz0
  have hlen : ds.length = fn.params.size := by simpa using trodAll_length _ _ _ _ hA
  refine (contract W base args ds p (tab_of hL).1 (tab_of hL).2 hval hA (fun x hx => hW'.lt x (List.mem_append_left _ hx)) hsz0).mono fun e W' ⟨he, hb⟩ => ?_
  exact ⟨_, he, law_post tb hv hrt hub hW' (hf ds hlen) hr hb⟩
end
end Go.Proofs.YtmhfpjnkjlhbpaaGreatDoor
