/- KernPlays returns true for all inputs: the row. -/
import Derived.Test.YtaanmamgmjhegaaKernPlays
namespace Go.Proofs.Ytaanmamgmjhegaa
open Go.ChangeShapes Go.WideShapes Go.ChangeAt Go.RowKit Go.Deep
set_option linter.unusedVariables false

set_option maxRecDepth 100000 in
theorem kernPlays_lifted (os : Os) (started : os.Started) (H : Type) (enc : TypeId × Value → H) :
    ReturnsInHanded {} Try.checked os 9 .any (Rows.kernPlaysSpec.pre6 enc Try.prog Try.f9 Rows.kernPlaysRow.domain false) (Rows.kernPlaysSpec.post enc Try.prog Try.f9 false true false false) := by
  refine law_lifted started (by kernel_rfl) Try.func9
    (ChangeSpec.witness6 (enc := enc) (C := Try.checked) false ⟨#[], #[.slice none 0 0, .int .i64 0], []⟩ 8 (by kernel_rfl) (by kernel_rfl) (by kernel_rfl) (by kernel_rfl))
    4 rfl (by kernel_rfl) Try.underlying4 (fun ds h => ?_) (by kernel_rfl) ?_
  · rw [show Try.f9.params.size = 2 from by kernel_rfl] at h
    match ds, h with
    | [_, _], _ => rfl
  intro W base args ds p hval hA hlt hsz
  rw [Try.params9] at hA hval hsz
  obtain ⟨v0, v1, d0, d1, p0, p1, rfl, rfl, rfl, h0, h1⟩ := trodAll_two hA
  obtain ⟨A, len, cap, F, rfl, hlc, hcm, hsl, hok⟩ := open_sl (size := 4) Try.underlying68 (by kernel_rfl) (by decide) Act6.cells Act6.Ok elem_act (hval 0 68 v0 rfl rfl) h0 (fun x hx => hlt x (by simp [hx]))
  obtain ⟨z, rfl, rfl, rfl, ws⟩ := open_int Try.underlying3 (hval 1 3 v1 rfl rfl) h1
  by_cases h : len ≤ 300
  · exact kernPlays_true A len cap F z h W hsl hok
  · exact kernPlays_long A len cap _ W (by omega) (by omega)

theorem kernPlays_holds : Rows.KernPlaysSaid :=
  OpenClaim.holds_of_wide 9 Try.f9 rfl rfl rfl rfl rfl rfl rfl ⟨rfl, rfl, rfl, rfl, rfl⟩ rfl rfl rfl rfl rfl (by kernel_rfl) Try.func9 (by kernel_rfl)
    (of_decide_eq_true (by kernel_rfl)) (by unfold Func.isWrapper; first | (rw [if_pos (by decide +kernel)]; kernel_rfl) | (rw [if_neg (by decide +kernel)]; exact ⟨rfl, rfl⟩))
    (fun os started H enc _ => kernPlays_lifted os started H enc)
end Go.Proofs.Ytaanmamgmjhegaa
