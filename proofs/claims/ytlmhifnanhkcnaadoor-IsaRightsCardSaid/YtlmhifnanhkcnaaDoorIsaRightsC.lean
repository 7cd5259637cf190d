/- IsaRights: the row and the card. -/
import Derived.Test.YtlmhifnanhkcnaaDoorIsaRightsB
import Derived.Test.YtlmhifnanhkcnaaDoorAgg
import Derived.Test.YtlmhifnanhkcnaaDoorCard
namespace Go.Proofs.YtlmhifnanhkcnaaDoor
open Go.ChangeShapes Go.WideShapes Go.ChangeAt Go.RowKit
set_option linter.unusedVariables false

theorem isaRights_met (os : Os) : laidMet Tryd.prog theLaid ((laidWorld os).forCall (fun _ _ => 0) ⟨#[], #[.agg #[.int .i64 0, .int .i64 0, .int .i64 0, .int .i64 0, .int .u32 0], .int .i64 0], []⟩).memory :=
  laidMet_of_run' 8 (by kernel_rfl) (by kernel_rfl)
theorem isaRights_reads (os : Os) {H : Type} (enc : TypeId × Value → H) : ∃ places, DataW.whole enc Tryd.prog ((laidWorld os).forCall (fun _ _ => 0) ⟨#[], #[.agg #[.int .i64 0, .int .i64 0, .int .i64 0, .int .i64 0, .int .u32 0], .int .i64 0], []⟩).memory Tryd.f3.params.toList Rows.isaRightsSpec.vars false (#[.agg #[.int .i64 0, .int .i64 0, .int .i64 0, .int .i64 0, .int .u32 0], .int .i64 0] : Array Value).toList 8 = some ([.agg [.lit (.int .i64 0), .lit (.int .i64 0), .lit (.int .i64 0), .lit (.int .i64 0), .lit (.int .u32 0)], .lit (.int .i64 0)], [], places) :=
  ⟨[], by kernel_rfl⟩

set_option maxRecDepth 100000 in
theorem isaRights_lifted (os : Os) (started : os.Started) (H : Type) (enc : TypeId × Value → H) (F : Stop.Interp) :
    ReturnsInHanded {} Tryd.checked os 3 .any ((OpenSpec.ofChange Rows.isaRightsSpec).preRow enc Tryd.prog Tryd.f3 Rows.isaRightsRow.domain false Rows.isaRightsRow.laid) (((OpenSpec.ofChange Rows.isaRightsSpec).at F).post enc Tryd.prog Tryd.f3 false true false false) := by
  obtain ⟨places, hx⟩ := isaRights_reads os enc
  refine card_lifted started (by kernel_rfl) Tryd.func3
    (witness_row_at (enc := enc) (C := Tryd.checked) false (laidWorld os) #[.agg #[.int .i64 0, .int .i64 0, .int .i64 0, .int .i64 0, .int .u32 0], .int .i64 0] rfl (by kernel_rfl) (by kernel_rfl) (by kernel_rfl)
      (OpenSpec.preRow_of_cond 8 hx (by kernel_rfl) (fun k hk => by cases hk) (by kernel_rfl) (isaRights_met os)))
    4 rfl (by kernel_rfl) Tryd.underlying4 (fun ds h => ?_) (by kernel_rfl) ?_
  · rw [show Tryd.f3.params.size = 2 from by kernel_rfl] at h
    match ds, h with
    | [_, _], _ => rfl
  intro W base args ds p hT hval hA hlt hsz
  rw [Tryd.params3] at hA hval hsz
  obtain ⟨v0, v1, d0, d1, p0, p1, rfl, rfl, rfl, h0, h1⟩ := trodAll_two hA
  obtain ⟨o, a, b, c, k, rfl, hk0, hk1⟩ := open_instr (hval 0 24 v0 rfl rfl) h0
  obtain ⟨size, rfl, rfl, rfl, ws⟩ := open_int Tryd.underlying3 (hval 1 3 v1 rfl rfl) h1
  have hs := bounds_i64 ws
  by_cases h : o < 0 ∨ 28 ≤ o
  · exact isaRights_out o a b c k size h W hT
  · obtain ⟨i, rfl⟩ : ∃ i : Nat, o = (i : Int) := ⟨o.toNat, by omega⟩
    exact isaRights_in i (by omega) a b c k size hk0 hk1 hs.1 hs.2 W hT

theorem isaRights_said : Rows.IsaRightsSaid :=
  OpenClaim.holds_of_cond 3 Tryd.f3 rfl rfl rfl rfl rfl rfl rfl ⟨rfl, rfl, rfl, rfl, rfl⟩ rfl rfl rfl rfl rfl (by kernel_rfl) Tryd.func3 (by kernel_rfl)
    (of_decide_eq_true (by kernel_rfl)) (by unfold Func.isWrapper; first | (rw [if_pos (by decide +kernel)]; kernel_rfl) | (rw [if_neg (by decide +kernel)]; exact ⟨rfl, rfl⟩))
    (fun os started H enc _ F => by rw [OpenClaim.pre_eq_preRow]; exact isaRights_lifted os started H enc F)

theorem isaRights_plain (f : FuncId) (fn : Func) (hf : Tryd.pinned.checked.prog.funcNamed "deadlatch/deadlatchlaw02.IsaRights" = some f) (hfn : Tryd.pinned.checked.prog.funcs[f]? = some fn) :
    false = Tryd.pinned.checked.prog.looks [] ∧ ∀ (j : Nat) t, fn.params[j]? = some t → Tryd.pinned.checked.prog.wantsStandIn t = false := by
  obtain rfl : f = 3 := Option.some.inj ((show Tryd.prog.funcNamed "deadlatch/deadlatchlaw02.IsaRights" = some 3 by kernel_rfl).symm.trans hf) |>.symm
  obtain rfl : fn = Tryd.f3 := (Option.some.inj (Tryd.func3.symm.trans hfn)).symm
  refine ⟨by kernel_rfl, fun j t ht => ?_⟩
  rw [Tryd.params3] at ht
  have hm : t = 24 ∨ t = 3 := by simpa using Array.mem_of_getElem? ht
  rcases hm with rfl | rfl
  · exact (show Tryd.prog.wantsStandIn 24 = false by kernel_rfl)
  · exact (show Tryd.prog.wantsStandIn 3 = false by kernel_rfl)

theorem isaRights_card : Rows.IsaRightsCardSaid :=
  Claim7.holds_tied_plain_at .later [] _ _ _ _ isaRights_said (fun _ h => by cases h) (by kernel_rfl) (fun _ h => by cases h) isaRights_row_tie rfl ⟨rfl, rfl⟩ (by kernel_rfl) rfl isaRights_plain (by kernel_rfl)
end Go.Proofs.YtlmhifnanhkcnaaDoor
