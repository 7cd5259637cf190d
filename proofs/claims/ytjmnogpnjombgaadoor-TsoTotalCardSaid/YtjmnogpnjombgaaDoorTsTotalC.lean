/- TsoTotal: any bytes, as a program, and any bytes, as a script, come to a machine, or to what is wrong, for every pair of byte rows: the card. -/
import Derived.Test.YtjmnogpnjombgaaDoorTsTotal
import Derived.Test.YtjmnogpnjombgaaDoorCard
namespace Go.Proofs.YtjmnogpnjombgaaDoor
open Go.ChangeShapes Go.WideShapes Go.ChangeAt Go.RowKit Go.Deep
set_option linter.unusedVariables false
set_option maxRecDepth 100000
set_option linter.unusedSimpArgs false

theorem tsoTotal_met (os : Os) : laidMet Tryd.prog theLaid ((laidWorld os).forCall (fun _ _ => 0) ⟨#[], #[.slice none 0 0, .slice none 0 0], []⟩).memory :=
  laidMet_of_run' 8 (by kernel_rfl) (by kernel_rfl)
theorem tsoTotal_reads (os : Os) {H : Type} (enc : TypeId × Value → H) : ∃ places, DataW.whole enc Tryd.prog ((laidWorld os).forCall (fun _ _ => 0) ⟨#[], #[.slice none 0 0, .slice none 0 0], []⟩).memory Tryd.f13.params.toList Rows.tsoTotalSpec.vars false (#[.slice none 0 0, .slice none 0 0] : Array Value).toList 8 = some ([.nil, .nil], [], places) :=
  ⟨[], by kernel_rfl⟩

set_option maxRecDepth 100000 in
theorem tsoTotal_lifted (os : Os) (started : os.Started) (H : Type) (enc : TypeId × Value → H) (F : Stop.Interp) :
    ReturnsInHanded {} Tryd.checked os 13 .any ((OpenSpec.ofChange Rows.tsoTotalSpec).preRow enc Tryd.prog Tryd.f13 Rows.tsoTotalRow.domain false Rows.tsoTotalRow.laid) (((OpenSpec.ofChange Rows.tsoTotalSpec).at F).post enc Tryd.prog Tryd.f13 false true false false) := by
  obtain ⟨places, hx⟩ := tsoTotal_reads os enc
  refine card_lifted started (by kernel_rfl) Tryd.func13
    (witness_row_at (enc := enc) (C := Tryd.checked) false (laidWorld os) #[.slice none 0 0, .slice none 0 0] rfl (by kernel_rfl) (by kernel_rfl) (by kernel_rfl)
      (OpenSpec.preRow_of_cond 8 hx (by kernel_rfl) (fun k hk => by cases hk) (by kernel_rfl) (tsoTotal_met os)))
    4 rfl (by kernel_rfl) Tryd.underlying4 (fun ds h => ?_) (by kernel_rfl) ?_
  · rw [show Tryd.f13.params.size = 2 from by kernel_rfl] at h
    match ds, h with
    | [_, _], _ => rfl
  intro W base args ds p hT hval hA hlt hsz
  rw [Tryd.params13] at hA hval hsz
  obtain ⟨v0, v1, d0, d1, p0, p1, rfl, rfl, rfl, h0, h1⟩ := trodAll_two hA
  obtain ⟨A, len, cap, Z, rfl, hlc, hcm, hsl, hwz⟩ := open_sl_ints Tryd.underlying29 Tryd.underlying5 (by kernel_rfl) (hval 0 29 v0 rfl rfl) h0 (fun x hx => hlt x (List.mem_append_left _ hx))
  obtain ⟨A2, n, cap2, Y, rfl, hlc2, hcm2, hsl2, hwy⟩ := open_sl_ints Tryd.underlying29 Tryd.underlying5 (by kernel_rfl) (hval 1 29 v1 rfl rfl) h1 (fun x hx => hlt x (List.mem_append_right _ hx))
  exact tsoTotal_true A len cap Z hlc (fun i hi => bounds_u8 (hwz i hi)) A2 n cap2 Y (fun i hi => bounds_u8 (hwy i hi)) W hT hsl hsl2

theorem tsoTotal_said : Rows.TsoTotalSaid :=
  OpenClaim.holds_of_cond 13 Tryd.f13 rfl rfl rfl rfl rfl rfl rfl ⟨rfl, rfl, rfl, rfl, rfl⟩ rfl rfl rfl rfl rfl (by kernel_rfl) Tryd.func13 (by kernel_rfl)
    (of_decide_eq_true (by kernel_rfl)) (by unfold Func.isWrapper; first | (rw [if_pos (by decide +kernel)]; kernel_rfl) | (rw [if_neg (by decide +kernel)]; exact ⟨rfl, rfl⟩))
    (fun os started H enc _ F => by rw [OpenClaim.pre_eq_preRow]; exact tsoTotal_lifted os started H enc F)

theorem tsoTotal_plain (f : FuncId) (fn : Func) (hf : Tryd.pinned.checked.prog.funcNamed "deadlatch/deadlatchlaw09.TsoTotal" = some f) (hfn : Tryd.pinned.checked.prog.funcs[f]? = some fn) :
    false = Tryd.pinned.checked.prog.looks [] ∧ ∀ (j : Nat) t, fn.params[j]? = some t → Tryd.pinned.checked.prog.wantsStandIn t = false := by
  obtain rfl : f = 13 := Option.some.inj ((show Tryd.prog.funcNamed "deadlatch/deadlatchlaw09.TsoTotal" = some 13 by kernel_rfl).symm.trans hf) |>.symm
  obtain rfl : fn = Tryd.f13 := (Option.some.inj (Tryd.func13.symm.trans hfn)).symm
  refine ⟨by kernel_rfl, fun j t ht => ?_⟩
  rw [Tryd.params13] at ht
  have hm : t = 29 ∨ t = 29 := by simpa using Array.mem_of_getElem? ht
  rcases hm with rfl | rfl
  · exact (show Tryd.prog.wantsStandIn 29 = false by kernel_rfl)
  · exact (show Tryd.prog.wantsStandIn 29 = false by kernel_rfl)

theorem tsoTotal_card : Rows.TsoTotalCardSaid :=
  Claim7.holds_tied_plain_at .later [] _ _ _ _ tsoTotal_said (fun _ h => by cases h) (by kernel_rfl) (fun _ h => by cases h) tsoTotal_row_tie rfl ⟨rfl, rfl⟩ (by kernel_rfl) rfl tsoTotal_plain (by kernel_rfl)
end Go.Proofs.YtjmnogpnjombgaaDoor
