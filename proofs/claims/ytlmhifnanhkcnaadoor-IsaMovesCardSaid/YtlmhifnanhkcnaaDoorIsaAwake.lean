/- The example of layer 2 holds. -/
import Derived.Test.YtlmhifnanhkcnaaDoorIsaRight

namespace Go.Proofs.YtlmhifnanhkcnaaDoor
open Go.ChangeShapes Go.WideShapes Go.ChangeAt Go.RowKit
set_option linter.unusedVariables false

theorem right_v (i : Nat) (a b c k size : Int) (v : Bool) (h : decide (RightP (kindAt i) a b c k size) = v) (hi : i < 28) (h0 : 0 ≤ k) (h1 : k ≤ 4294967295) (h2 : -9223372036854775808 ≤ size) (h3 : size ≤ 9223372036854775807) (w : World) (ht : Tab w) :
    Calls Tryd.prog 12 #[.agg #[.int .i64 (i : Int), .int .i64 a, .int .i64 b, .int .i64 c, .int .u32 k], .int .i64 size] w fun e w' => e = .returned (.bool v) ∧ Below w.heap.size w w' :=
  h ▸ isaRight_in i hi a b c k size h0 h1 h2 h3 w ht

theorem right_none (i : Nat) (hi : i < 28) : decide (RightP (kindAt i) 0 0 0 0 0) = true := by
  unfold RightP FieldP
  generalize kindAt i = q
  obtain ⟨qa, qb, qm, qc, qt, qk⟩ := q
  cases qa <;> cases qb <;> cases qm <;> cases qc <;> cases qt <;> cases qk <;> simp

theorem awake02_any (w : World) (ht : Tab w) : Calls Tryd.prog 11 #[] w fun e w' => e = .returned (.bool true) ∧ Below w.heap.size w w' := by
  go_enter Tryd.func11, Tryd.ntmps11
  go_wp2_with fail
  refine (right_v 1 7 0 0 5 0 true (by decide +kernel) (by decide) (by decide) (by decide) (by decide) (by decide) w ht).mono ?_
  rintro e w1 ⟨rfl, hb1⟩
  have ht1 := ht.step hb1
  go_wp2_with fail
  refine (right_v 1 8 0 0 5 0 false (by decide +kernel) (by decide) (by decide) (by decide) (by decide) (by decide) _ ht1).mono ?_
  rintro e w2 ⟨rfl, hb2⟩
  have ht2 := ht1.step hb2
  have hB2 := step_below hb1 hb2
  go_wp2_with fail
  refine (right_v 13 0 0 0 3 3 true (by decide +kernel) (by decide) (by decide) (by decide) (by decide) (by decide) _ ht2).mono ?_
  rintro e w3 ⟨rfl, hb3⟩
  have ht3 := ht2.step hb3
  have hB3 := step_below hB2 hb3
  go_wp2_with fail
  refine (name_in 0 (by decide) _ ht3).mono ?_
  rintro e w4 ⟨rfl, hb4⟩
  have hB4 := step_below hB3 hb4
  have hn : (nmS 0).toList = [104, 97, 108, 116] := by decide +kernel
  go_wp2
  go_ret
  exact ⟨by first | (simp; done) | simp [hn], hB4⟩
end Go.Proofs.YtlmhifnanhkcnaaDoor
