/- RwCode. -/
import Derived.Test.YtmhfpjnkjlhbpaaGreatDoorRwY
import Derived.Test.YtmhfpjnkjlhbpaaGreatDoorCardO
namespace Go.Proofs.YtmhfpjnkjlhbpaaGreatDoor
open Go.ChangeShapes Go.WideShapes Go.ChangeAt Go.RowKit Go.Deep
set_option linter.unusedVariables false
set_option maxRecDepth 100000
set_option linter.unusedSimpArgs false
theorem rwCode_met (os : Os) : laidMet Tryz.prog theLaid ((laidWorld os).forCall (fun _ _ => 0) ⟨#[], #[.agg #[.int .i64 0, .int .i64 0, .int .i64 0, .int .i64 0, .int .i64 0, .int .i64 0, .int .i64 0, .int .u16 0, .int .u32 0]], []⟩).memory :=
  laidMet_of_run' 8 (by kernel_rfl) (by kernel_rfl)
theorem rwCode_reads (os : Os) {H : Type} (enc : TypeId × Value → H) : ∃ places, DataW.whole enc Tryz.prog ((laidWorld os).forCall (fun _ _ => 0) ⟨#[], #[.agg #[.int .i64 0, .int .i64 0, .int .i64 0, .int .i64 0, .int .i64 0, .int .i64 0, .int .i64 0, .int .u16 0, .int .u32 0]], []⟩).memory Tryz.f4.params.toList Rows.rwCodeSpec.vars false (#[.agg #[.int .i64 0, .int .i64 0, .int .i64 0, .int .i64 0, .int .i64 0, .int .i64 0, .int .i64 0, .int .u16 0, .int .u32 0]] : Array Value).toList 8 = some ([.agg [.agg [.lit (.int .i64 0), .lit (.int .i64 0), .lit (.int .i64 0), .lit (.int .i64 0)], .lit (.int .i64 0), .lit (.int .i64 0), .lit (.int .i64 0), .lit (.int .u16 0), .lit (.int .u32 0)]], [], places) :=
  ⟨[], by kernel_rfl⟩
set_option maxRecDepth 100000 in
theorem rwCode_lifted (os : Os) (started : os.Started) (H : Type) (enc : TypeId × Value → H) (F : Stop.Interp) :
    ReturnsInHanded {} Tryz.checked os 4 .any ((OpenSpec.ofChange Rows.rwCodeSpec).preRow enc Tryz.prog Tryz.f4 Rows.rwCodeRow.domain false Rows.rwCodeRow.laid) (((OpenSpec.ofChange Rows.rwCodeSpec).at F).post enc Tryz.prog Tryz.f4 false true false false) := by
  obtain ⟨places, hx⟩ := rwCode_reads os enc
  refine card_lifted started (by kernel_rfl) Tryz.func4
    (witness_row_at (enc := enc) (C := Tryz.checked) false (laidWorld os) #[.agg #[.int .i64 0, .int .i64 0, .int .i64 0, .int .i64 0, .int .i64 0, .int .i64 0, .int .i64 0, .int .u16 0, .int .u32 0]] rfl (by kernel_rfl) (by kernel_rfl) (by kernel_rfl)
      (OpenSpec.preRow_of_cond 8 hx (by kernel_rfl) (fun k hk => by cases hk) (by kernel_rfl) (rwCode_met os)))
    4 rfl (by kernel_rfl) Tryz.underlying4 (fun ds h => ?_) (by kernel_rfl) ?_
  · rw [show Tryz.f4.params.size = 1 from by kernel_rfl] at h
    match ds, h with
    | [_], _ => rfl
  intro W base args ds p hT hO hval hA hlt hsz
  rw [Tryz.params4] at hA hval hsz
  obtain ⟨v0, d0, rfl, rfl, h0⟩ := trodAll_one hA
  obtain ⟨k, n, a, b, call, th, t, bs, arg, rfl, h1, h2⟩ := open_askR (hval 0 49 v0 rfl rfl) h0
  exact rwCode_true k n a b call th t bs arg h1 h2 W hT hO
theorem rwCode_said : Rows.RwCodeSaid :=
  OpenClaim.holds_of_cond 4 Tryz.f4 rfl rfl rfl rfl rfl rfl rfl ⟨rfl, rfl, rfl, rfl, rfl⟩ rfl rfl rfl rfl rfl (by kernel_rfl) Tryz.func4 (by kernel_rfl)
    (of_decide_eq_true (by kernel_rfl)) (by unfold Func.isWrapper; first | (rw [if_pos (by decide +kernel)]; kernel_rfl) | (rw [if_neg (by decide +kernel)]; exact ⟨rfl, rfl⟩))
    (fun os started H enc _ F => by rw [OpenClaim.pre_eq_preRow]; exact rwCode_lifted os started H enc F)
theorem rwCode_plain (f : FuncId) (fn : Func) (hf : Tryz.pinned.checked.prog.funcNamed "deadlatch/deadlatchlaw22.RwCode" = some f) (hfn : Tryz.pinned.checked.prog.funcs[f]? = some fn) :
    true = Tryz.pinned.checked.prog.looks [] ∧ ∀ (j : Nat) t, fn.params[j]? = some t → Tryz.pinned.checked.prog.wantsStandIn t = false := by
  obtain rfl : f = 4 := Option.some.inj ((show Tryz.prog.funcNamed "deadlatch/deadlatchlaw22.RwCode" = some 4 by kernel_rfl).symm.trans hf) |>.symm
  obtain rfl : fn = Tryz.f4 := (Option.some.inj (Tryz.func4.symm.trans hfn)).symm
  refine ⟨by kernel_rfl, fun j t ht => ?_⟩
  rw [Tryz.params4] at ht
  have hm : t = 49 := by simpa using Array.mem_of_getElem? ht
  rcases hm with rfl
  · exact (show Tryz.prog.wantsStandIn 49 = false by kernel_rfl)
theorem rwCode_card : Rows.RwCodeCardSaid :=
  Claim7.holds_tied_plain_at .later [] _ _ _ _ rwCode_said (fun _ h => by cases h) (by kernel_rfl) (fun _ h => by cases h) rwCode_row_tie rfl ⟨rfl, rfl⟩ (by kernel_rfl) rfl rwCode_plain (by kernel_rfl)
end Go.Proofs.YtmhfpjnkjlhbpaaGreatDoor
