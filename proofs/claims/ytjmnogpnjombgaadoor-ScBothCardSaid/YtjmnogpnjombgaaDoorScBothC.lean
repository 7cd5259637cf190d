/- ScBoth: of two threads that each store, and load the other word, one sees the other, for every input: the card. -/
import Derived.Test.YtjmnogpnjombgaaDoorScBothW
import Derived.Test.YtjmnogpnjombgaaDoorCard
namespace Go.Proofs.YtjmnogpnjombgaaDoor
open Go.ChangeShapes Go.WideShapes Go.ChangeAt Go.RowKit Go.Deep
set_option linter.unusedVariables false
set_option maxRecDepth 100000
set_option linter.unusedSimpArgs false

theorem scBoth_met (os : Os) : laidMet Tryd.prog theLaid ((laidWorld os).forCall (fun _ _ => 0) ⟨#[], #[.slice none 0 0], []⟩).memory :=
  laidMet_of_run' 8 (by kernel_rfl) (by kernel_rfl)
theorem scBoth_reads (os : Os) {H : Type} (enc : TypeId × Value → H) : ∃ places, DataW.whole enc Tryd.prog ((laidWorld os).forCall (fun _ _ => 0) ⟨#[], #[.slice none 0 0], []⟩).memory Tryd.f6.params.toList Rows.scBothSpec.vars false (#[.slice none 0 0] : Array Value).toList 8 = some ([.nil], [], places) :=
  ⟨[], by kernel_rfl⟩

set_option maxRecDepth 100000 in
theorem scBoth_lifted (os : Os) (started : os.Started) (H : Type) (enc : TypeId × Value → H) (F : Stop.Interp) :
    ReturnsInHanded {} Tryd.checked os 6 .any ((OpenSpec.ofChange Rows.scBothSpec).preRow enc Tryd.prog Tryd.f6 Rows.scBothRow.domain false Rows.scBothRow.laid) (((OpenSpec.ofChange Rows.scBothSpec).at F).post enc Tryd.prog Tryd.f6 false true false false) := by
  obtain ⟨places, hx⟩ := scBoth_reads os enc
  refine card_lifted started (by kernel_rfl) Tryd.func6
    (witness_row_at (enc := enc) (C := Tryd.checked) false (laidWorld os) #[.slice none 0 0] rfl (by kernel_rfl) (by kernel_rfl) (by kernel_rfl)
      (OpenSpec.preRow_of_cond 8 hx (by kernel_rfl) (fun k hk => by cases hk) (by kernel_rfl) (scBoth_met os)))
    4 rfl (by kernel_rfl) Tryd.underlying4 (fun ds h => ?_) (by kernel_rfl) ?_
  · rw [show Tryd.f6.params.size = 1 from by kernel_rfl] at h
    match ds, h with
    | [_], _ => rfl
  intro W base args ds p hT hval hA hlt hsz
  rw [Tryd.params6] at hA hval hsz
  obtain ⟨v0, d0, rfl, rfl, h0⟩ := trodAll_one hA
  obtain ⟨A, n, cap, Z, rfl, hnc, hcm, hs, hz⟩ := open_sl_ints Tryd.underlying29 Tryd.underlying5 (by kernel_rfl) (hval 0 29 v0 rfl rfl) h0 hlt
  exact scBoth_true A n cap hnc hcm Z (fun i hi => by
    have := bounds_u8 (hz i hi)
    exact this) W hT hs

theorem scBoth_said : Rows.ScBothSaid :=
  OpenClaim.holds_of_cond 6 Tryd.f6 rfl rfl rfl rfl rfl rfl rfl ⟨rfl, rfl, rfl, rfl, rfl⟩ rfl rfl rfl rfl rfl (by kernel_rfl) Tryd.func6 (by kernel_rfl)
    (of_decide_eq_true (by kernel_rfl)) (by unfold Func.isWrapper; first | (rw [if_pos (by decide +kernel)]; kernel_rfl) | (rw [if_neg (by decide +kernel)]; exact ⟨rfl, rfl⟩))
    (fun os started H enc _ F => by rw [OpenClaim.pre_eq_preRow]; exact scBoth_lifted os started H enc F)

theorem scBoth_plain (f : FuncId) (fn : Func) (hf : Tryd.pinned.checked.prog.funcNamed "deadlatch/deadlatchlaw10.ScBoth" = some f) (hfn : Tryd.pinned.checked.prog.funcs[f]? = some fn) :
    false = Tryd.pinned.checked.prog.looks [] ∧ ∀ (j : Nat) t, fn.params[j]? = some t → Tryd.pinned.checked.prog.wantsStandIn t = false := by
  obtain rfl : f = 6 := Option.some.inj ((show Tryd.prog.funcNamed "deadlatch/deadlatchlaw10.ScBoth" = some 6 by kernel_rfl).symm.trans hf) |>.symm
  obtain rfl : fn = Tryd.f6 := (Option.some.inj (Tryd.func6.symm.trans hfn)).symm
  refine ⟨by kernel_rfl, fun j t ht => ?_⟩
  rw [Tryd.params6] at ht
  have hm : t = 29 := by simpa using Array.mem_of_getElem? ht
  rcases hm with rfl
  · exact (show Tryd.prog.wantsStandIn 29 = false by kernel_rfl)

theorem scBoth_card : Rows.ScBothCardSaid :=
  Claim7.holds_tied_plain_at .later [] _ _ _ _ scBoth_said (fun _ h => by cases h) (by kernel_rfl) (fun _ h => by cases h) scBoth_row_tie rfl ⟨rfl, rfl⟩ (by kernel_rfl) rfl scBoth_plain (by kernel_rfl)
end Go.Proofs.YtjmnogpnjombgaaDoor
