/- TsoApart: a thread alone comes to what it comes to among others that ask no memory, for every pair of codes, script and room: the card. -/
import Derived.Test.YtjmnogpnjombgaaDoorTsApart
import Derived.Test.YtjmnogpnjombgaaDoorCard
import Derived.Carry
namespace Go.Proofs.YtjmnogpnjombgaaDoor
open Go.ChangeShapes Go.WideShapes Go.ChangeAt Go.RowKit Go.Deep
set_option linter.unusedVariables false
set_option maxRecDepth 100000
set_option linter.unusedSimpArgs false

theorem tsoApart_met (os : Os) : laidMet Tryd.prog theLaid ((laidWorld os).forCall (fun _ _ => 0) ⟨#[], #[.slice none 0 0, .slice none 0 0, .slice none 0 0, .int .u8 0], []⟩).memory :=
  laidMet_of_run' 8 (by kernel_rfl) (by kernel_rfl)
theorem tsoApart_reads (os : Os) {H : Type} (enc : TypeId × Value → H) : ∃ places, DataW.whole enc Tryd.prog ((laidWorld os).forCall (fun _ _ => 0) ⟨#[], #[.slice none 0 0, .slice none 0 0, .slice none 0 0, .int .u8 0], []⟩).memory Tryd.f10.params.toList Rows.tsoApartSpec.vars false (#[.slice none 0 0, .slice none 0 0, .slice none 0 0, .int .u8 0] : Array Value).toList 8 = some ([.nil, .nil, .nil, .lit (.int .u8 0)], [], places) :=
  ⟨[], by kernel_rfl⟩

set_option maxRecDepth 100000 in
theorem tsoApart_lifted (os : Os) (started : os.Started) (H : Type) (enc : TypeId × Value → H) (F : Stop.Interp) :
    ReturnsInHanded {} Tryd.checked os 10 .any ((OpenSpec.ofChange Rows.tsoApartSpec).preRow enc Tryd.prog Tryd.f10 Rows.tsoApartRow.domain false Rows.tsoApartRow.laid) (((OpenSpec.ofChange Rows.tsoApartSpec).at F).post enc Tryd.prog Tryd.f10 false true false false) := by
  obtain ⟨places, hx⟩ := tsoApart_reads os enc
  refine card_lifted started (by kernel_rfl) Tryd.func10
    (witness_row_at (enc := enc) (C := Tryd.checked) false (laidWorld os) #[.slice none 0 0, .slice none 0 0, .slice none 0 0, .int .u8 0] rfl (by kernel_rfl) (by kernel_rfl) (by kernel_rfl)
      (OpenSpec.preRow_of_cond 8 hx (by kernel_rfl) (fun k hk => by cases hk) (by kernel_rfl) (tsoApart_met os)))
    4 rfl (by kernel_rfl) Tryd.underlying4 (fun ds h => ?_) (by kernel_rfl) ?_
  · rw [show Tryd.f10.params.size = 4 from by kernel_rfl] at h
    match ds, h with
    | [_, _, _, _], _ => rfl
  intro W base args ds p hT hval hA hlt hsz
  rw [Tryd.params10] at hA hval hsz
  obtain ⟨v0, v1, v2, v3, d0, d1, d2, d3, p0, p1, p2, p3, rfl, rfl, rfl, h0, h1, h2, h3⟩ := trodAll_four hA
  obtain ⟨c, rfl, hco, hca⟩ := open_code (hval 0 26 v0 rfl rfl) h0
  obtain ⟨d, rfl, hdo, hda⟩ := open_code (hval 1 26 v1 rfl rfl) h1
  obtain ⟨A, n, cap, F, rfl, hnc, hcm, hs, _⟩ := open_sl (size := 2) Tryd.underlying70 (by kernel_rfl) (by omega) (fun a : Int × Int => [.int .i64 a.1, .int .i64 a.2]) _
    (elem_int2 Tryd.underlying67 (by kernel_rfl) (by kernel_rfl) Tryd.underlying3 Tryd.underlying3) (hval 2 70 v2 rfl rfl) h2 (fun x hx => hlt x (List.mem_append_left _ (List.mem_append_right _ hx)))
  obtain ⟨r, rfl, rfl, rfl, wr⟩ := open_int Tryd.underlying5 (hval 3 5 v3 rfl rfl) h3
  have hr := bounds_u8 wr
  exact tsoApart_true c d hco hdo A n cap F r hr.1 hr.2 W hT hca hda hs

theorem tsoApart_said : Rows.TsoApartSaid :=
  OpenClaim.holds_of_cond 10 Tryd.f10 rfl rfl rfl rfl rfl rfl rfl ⟨rfl, rfl, rfl, rfl, rfl⟩ rfl rfl rfl rfl rfl (by kernel_rfl) Tryd.func10 (by kernel_rfl)
    (of_decide_eq_true (by kernel_rfl)) (by unfold Func.isWrapper; first | (rw [if_pos (by decide +kernel)]; kernel_rfl) | (rw [if_neg (by decide +kernel)]; exact ⟨rfl, rfl⟩))
    (fun os started H enc _ F => by rw [OpenClaim.pre_eq_preRow]; exact tsoApart_lifted os started H enc F)

theorem tsoApart_plain (f : FuncId) (fn : Func) (hf : Tryd.pinned.checked.prog.funcNamed "deadlatch/deadlatchlaw09.TsoApart" = some f) (hfn : Tryd.pinned.checked.prog.funcs[f]? = some fn) :
    false = Tryd.pinned.checked.prog.looks [] ∧ ∀ (j : Nat) t, fn.params[j]? = some t → Tryd.pinned.checked.prog.wantsStandIn t = false := by
  obtain rfl : f = 10 := Option.some.inj ((show Tryd.prog.funcNamed "deadlatch/deadlatchlaw09.TsoApart" = some 10 by kernel_rfl).symm.trans hf) |>.symm
  obtain rfl : fn = Tryd.f10 := (Option.some.inj (Tryd.func10.symm.trans hfn)).symm
  refine ⟨by kernel_rfl, fun j t ht => ?_⟩
  rw [Tryd.params10] at ht
  have hm : t = 26 ∨ t = 26 ∨ t = 70 ∨ t = 5 := by simpa using Array.mem_of_getElem? ht
  rcases hm with rfl | rfl | rfl | rfl
  · exact (show Tryd.prog.wantsStandIn 26 = false by kernel_rfl)
  · exact (show Tryd.prog.wantsStandIn 26 = false by kernel_rfl)
  · exact (show Tryd.prog.wantsStandIn 70 = false by kernel_rfl)
  · exact (show Tryd.prog.wantsStandIn 5 = false by kernel_rfl)

theorem tsoApart_card : Rows.TsoApartCardSaid :=
  Claim7.holds_tied_plain_at .later [] _ _ _ _ tsoApart_said (fun _ h => by cases h) (by kernel_rfl) (fun _ h => by cases h) tsoApart_row_tie rfl ⟨rfl, rfl⟩ (by kernel_rfl) rfl tsoApart_plain (by kernel_rfl)
end Go.Proofs.YtjmnogpnjombgaaDoor
