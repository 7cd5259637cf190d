/- ScEager: a machine with buffers that are flushed behind each pick comes to what the machine without them comes to, for every program and script: the card. -/
import Derived.Test.YtjmnogpnjombgaaDoorScEager
import Derived.Test.YtjmnogpnjombgaaDoorCard
namespace Go.Proofs.YtjmnogpnjombgaaDoor
open Go.ChangeShapes Go.WideShapes Go.ChangeAt Go.RowKit Go.Deep
set_option linter.unusedVariables false
set_option maxRecDepth 100000
set_option linter.unusedSimpArgs false

theorem scEager_met (os : Os) : laidMet Tryd.prog theLaid ((laidWorld os).forCall (fun _ _ => 0) ⟨#[], #[.agg #[.slice none 0 0, .slice none 0 0, .int .i64 0], .slice none 0 0], []⟩).memory :=
  laidMet_of_run' 8 (by kernel_rfl) (by kernel_rfl)
theorem scEager_reads (os : Os) {H : Type} (enc : TypeId × Value → H) : ∃ places, DataW.whole enc Tryd.prog ((laidWorld os).forCall (fun _ _ => 0) ⟨#[], #[.agg #[.slice none 0 0, .slice none 0 0, .int .i64 0], .slice none 0 0], []⟩).memory Tryd.f12.params.toList Rows.scEagerSpec.vars false (#[.agg #[.slice none 0 0, .slice none 0 0, .int .i64 0], .slice none 0 0] : Array Value).toList 8 = some ([.agg [.nil, .nil, .lit (.int .i64 0)], .nil], [], places) :=
  ⟨[], by kernel_rfl⟩

set_option maxRecDepth 100000 in
theorem scEager_lifted (os : Os) (started : os.Started) (H : Type) (enc : TypeId × Value → H) (F : Stop.Interp) :
    ReturnsInHanded {} Tryd.checked os 12 .any ((OpenSpec.ofChange Rows.scEagerSpec).preRow enc Tryd.prog Tryd.f12 Rows.scEagerRow.domain false Rows.scEagerRow.laid) (((OpenSpec.ofChange Rows.scEagerSpec).at F).post enc Tryd.prog Tryd.f12 false true false false) := by
  obtain ⟨places, hx⟩ := scEager_reads os enc
  refine card_lifted started (by kernel_rfl) Tryd.func12
    (witness_row_at (enc := enc) (C := Tryd.checked) false (laidWorld os) #[.agg #[.slice none 0 0, .slice none 0 0, .int .i64 0], .slice none 0 0] rfl (by kernel_rfl) (by kernel_rfl) (by kernel_rfl)
      (OpenSpec.preRow_of_cond 8 hx (by kernel_rfl) (fun k hk => by cases hk) (by kernel_rfl) (scEager_met os)))
    4 rfl (by kernel_rfl) Tryd.underlying4 (fun ds h => ?_) (by kernel_rfl) ?_
  · rw [show Tryd.f12.params.size = 2 from by kernel_rfl] at h
    match ds, h with
    | [_, _], _ => rfl
  intro W base args ds p hT hval hA hlt hsz
  rw [Tryd.params12] at hA hval hsz
  obtain ⟨v0, v1, d0, d1, p0, p1, rfl, rfl, rfl, h0, h1⟩ := trodAll_two hA
  obtain ⟨q, rfl, ho, ha⟩ := open_prog (hval 0 63 v0 rfl rfl) h0
  obtain ⟨A, n, cap, F, rfl, hnc, hcm, hs, _⟩ := open_sl (size := 2) Tryd.underlying70 (by kernel_rfl) (by omega) (fun a : Int × Int => [.int .i64 a.1, .int .i64 a.2]) _
    (elem_int2 Tryd.underlying67 (by kernel_rfl) (by kernel_rfl) Tryd.underlying3 Tryd.underlying3) (hval 1 70 v1 rfl rfl) h1 (fun x hx => hlt x (List.mem_append_right _ hx))
  exact scEager_true q ho A n cap F W hT ha hs (by unfold maxLen at hcm; omega)

theorem scEager_said : Rows.ScEagerSaid :=
  OpenClaim.holds_of_cond 12 Tryd.f12 rfl rfl rfl rfl rfl rfl rfl ⟨rfl, rfl, rfl, rfl, rfl⟩ rfl rfl rfl rfl rfl (by kernel_rfl) Tryd.func12 (by kernel_rfl)
    (of_decide_eq_true (by kernel_rfl)) (by unfold Func.isWrapper; first | (rw [if_pos (by decide +kernel)]; kernel_rfl) | (rw [if_neg (by decide +kernel)]; exact ⟨rfl, rfl⟩))
    (fun os started H enc _ F => by rw [OpenClaim.pre_eq_preRow]; exact scEager_lifted os started H enc F)

theorem scEager_plain (f : FuncId) (fn : Func) (hf : Tryd.pinned.checked.prog.funcNamed "deadlatch/deadlatchlaw10.ScEager" = some f) (hfn : Tryd.pinned.checked.prog.funcs[f]? = some fn) :
    false = Tryd.pinned.checked.prog.looks [] ∧ ∀ (j : Nat) t, fn.params[j]? = some t → Tryd.pinned.checked.prog.wantsStandIn t = false := by
  obtain rfl : f = 12 := Option.some.inj ((show Tryd.prog.funcNamed "deadlatch/deadlatchlaw10.ScEager" = some 12 by kernel_rfl).symm.trans hf) |>.symm
  obtain rfl : fn = Tryd.f12 := (Option.some.inj (Tryd.func12.symm.trans hfn)).symm
  refine ⟨by kernel_rfl, fun j t ht => ?_⟩
  rw [Tryd.params12] at ht
  have hm : t = 63 ∨ t = 70 := by simpa using Array.mem_of_getElem? ht
  rcases hm with rfl | rfl
  · exact (show Tryd.prog.wantsStandIn 63 = false by kernel_rfl)
  · exact (show Tryd.prog.wantsStandIn 70 = false by kernel_rfl)

theorem scEager_card : Rows.ScEagerCardSaid :=
  Claim7.holds_tied_plain_at .later [] _ _ _ _ scEager_said (fun _ h => by cases h) (by kernel_rfl) (fun _ h => by cases h) scEager_row_tie rfl ⟨rfl, rfl⟩ (by kernel_rfl) rfl scEager_plain (by kernel_rfl)
end Go.Proofs.YtjmnogpnjombgaaDoor
