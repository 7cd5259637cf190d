/- CodePuts returns true for every instruction and every row of bytes behind it, and leaves all old memory as it was. No condition. -/
import Derived.Test.YtlmhifnanhkcnaaCodeGet
import Derived.Test.YtlmhifnanhkcnaaCodeAwake
import Derived.Test.YtlmhifnanhkcnaaAppend
import Derived.Deep.Fields
namespace Go.Proofs.Ytlmhifnanhkcnaa
open Go.ChangeShapes Go.WideShapes Go.ChangeAt Go.RowKit
set_option linter.unusedVariables false

def instrV (o a b c k : Int) : Value := .agg #[.int .i64 o, .int .i64 a, .int .i64 b, .int .i64 c, .int .u32 k]

theorem codePuts_long (o a b c k : Int) (A : Option Addr) (len cap : Nat) (w : World) (hl : 2000 < len) (hm : len ≤ maxLen) :
    Calls Try.prog 3 #[.agg #[.int .i64 o, .int .i64 a, .int .i64 b, .int .i64 c, .int .u32 k], .slice A len cap] w fun e w' => e = .returned (.bool true) ∧ Below w.heap.size w w' := by
  unfold maxLen at hm
  go_enter Try.func3, Try.ntmps3
  have hl' : (2000 : Int) < (len : Int) := by omega
  have hB := (Below.refl w.heap.size w).alloc (Nat.le_refl _) (Obj.cells #[.int .i64 o, .int .i64 a, .int .i64 b, .int .i64 c, .int .u32 k] 24)
  go_wp2_with fail
  refine (awake_any _).mono ?_
  rintro e w0 ⟨rfl, hb0⟩
  go_wp2_with fail
  refine (awake_any _).mono ?_
  rintro e w1 ⟨rfl, hb1⟩
  go_wp2
  go_ret
  exact ⟨rfl, step_below (step_below hB hb0) hb1⟩

set_option maxHeartbeats 400000 in
theorem codePuts_no (o a b c k : Int) (hno : ¬ (inByte o ∧ inByte a ∧ inByte b ∧ inByte c)) (A : Option Addr) (len cap : Nat) (w : World) (hl : len ≤ 2000) :
    Calls Try.prog 3 #[.agg #[.int .i64 o, .int .i64 a, .int .i64 b, .int .i64 c, .int .u32 k], .slice A len cap] w fun e w' => e = .returned (.bool true) ∧ Below w.heap.size w w' := by
  have hno' := hno
  unfold inByte at hno'
  have HN := Lib.hid hno
  clear hno
  have hl' : ¬ (2000 : Int) < (len : Int) := by omega
  have hB := (Below.refl w.heap.size w).alloc (Nat.le_refl _) (Obj.cells #[.int .i64 o, .int .i64 a, .int .i64 b, .int .i64 c, .int .u32 k] 24)
  have hq := Blk.new w 24 #[.int .i64 o, .int .i64 a, .int .i64 b, .int .i64 c, .int .u32 k]
  have hcase : o < 0 ∨ (0 ≤ o ∧ 255 < o) ∨ (0 ≤ o ∧ o ≤ 255 ∧ a < 0) ∨ (0 ≤ o ∧ o ≤ 255 ∧ 0 ≤ a ∧ 255 < a) ∨ (0 ≤ o ∧ o ≤ 255 ∧ 0 ≤ a ∧ a ≤ 255 ∧ b < 0) ∨ (0 ≤ o ∧ o ≤ 255 ∧ 0 ≤ a ∧ a ≤ 255 ∧ 0 ≤ b ∧ 255 < b) ∨
      (0 ≤ o ∧ o ≤ 255 ∧ 0 ≤ a ∧ a ≤ 255 ∧ 0 ≤ b ∧ b ≤ 255 ∧ c < 0) ∨ (0 ≤ o ∧ o ≤ 255 ∧ 0 ≤ a ∧ a ≤ 255 ∧ 0 ≤ b ∧ b ≤ 255 ∧ 0 ≤ c ∧ 255 < c) := by omega
  clear hno'
  go_enter Try.func3, Try.ntmps3
  go_wp2_with fail
  refine (awake_any _).mono ?_
  rintro e w0 ⟨rfl, hb0⟩
  have hq0 := hq.below hb0 hq.lt
  have hB0 := step_below hB hb0
  have k0 := hq0.cell 0
  have k1 := hq0.cell 1
  have k2 := hq0.cell 2
  have k3 := hq0.cell 3
  have k4 := hq0.cell 4
  simp only [List.getElem?_toArray, List.getElem?_cons_zero, List.getElem?_cons_succ] at k0 k1 k2 k3 k4
  clear hq hb0 hB
  go_wp2_with fail
  refine (put_no o a b c k HN.out _).mono ?_
  rintro e w1 ⟨rfl, hb1⟩
  have hq1 := hq0.below hb1 hq0.lt
  have hB1 := step_below hB0 hb1
  clear k0 k1 k2 k3 k4 hq0 hb1 hB0
  have k0 := hq1.cell 0
  have k1 := hq1.cell 1
  have k2 := hq1.cell 2
  have k3 := hq1.cell 3
  have k4 := hq1.cell 4
  simp only [List.getElem?_toArray, List.getElem?_cons_zero, List.getElem?_cons_succ] at k0 k1 k2 k3 k4
  clear hq1
  rcases hcase with h | ⟨h1, h⟩ | ⟨h1, h2, h⟩ | ⟨h1, h2, h3, h⟩ | ⟨h1, h2, h3, h4, h⟩ | ⟨h1, h2, h3, h4, h5, h⟩ | ⟨h1, h2, h3, h4, h5, h6, h⟩ | ⟨h1, h2, h3, h4, h5, h6, h7, h⟩
  all_goals
    go_wp2
    go_ret
    exact ⟨by simp, hB1⟩
end Go.Proofs.Ytlmhifnanhkcnaa
