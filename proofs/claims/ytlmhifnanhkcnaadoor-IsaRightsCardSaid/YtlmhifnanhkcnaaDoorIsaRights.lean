/- IsaRights returns true for every instruction and every size, in a world that holds the tables. -/
import Derived.Test.YtlmhifnanhkcnaaDoorIsaRef
import Derived.Test.YtlmhifnanhkcnaaDoorIsaAwake
import Derived.Deep.RegionHeld3
namespace Go.Proofs.YtlmhifnanhkcnaaDoor
open Go.ChangeShapes Go.WideShapes Go.ChangeAt Go.RowKit
set_option linter.unusedVariables false

theorem keep_at {B : Nat} {W w1 : World} {b o : Nat} {v : Value} (hb : Below B W w1) (hlt : b < B) (h : W.cell? ⟨b, o, none⟩ = some v) : w1.cell? ⟨b, o, none⟩ = some v :=
  (hb.cell (p := ⟨b, o, none⟩) hlt).trans h

set_option maxHeartbeats 4000000 in
theorem isaRights_in (i : Nat) (hi : i < 28) (a b c k size : Int) (h0 : 0 ≤ k) (h1 : k ≤ 4294967295) (h2 : -9223372036854775808 ≤ size) (h3 : size ≤ 9223372036854775807) (w : World) (ht : Tab w) :
    Calls Tryd.prog 3 #[.agg #[.int .i64 (i : Int), .int .i64 a, .int .i64 b, .int .i64 c, .int .u32 k], .int .i64 size] w fun e w' => e = .returned (.bool true) ∧ Below w.heap.size w w' := by
  obtain ⟨r, hr⟩ : ∃ r, decide (RightP (kindAt i) a b c k size) = r := ⟨_, rfl⟩
  have cR := right_v i a b c k size r hr hi h0 h1 h2 h3
  have cF := refRight_in i hi a b c k size h0 h1
  rw [hr] at cF
  have cZ := right_v i 0 0 0 0 0 true (right_none i hi) hi (by decide) (by decide) (by decide) (by decide)
  have cN := name_in i hi
  have enm := (use_at i hi).2.2.2.2.2.2
  clear hr
  have hB := (Below.refl w.heap.size w).alloc (Nat.le_refl _) (Obj.cells #[.int .i64 (i : Int), .int .i64 a, .int .i64 b, .int .i64 c, .int .u32 k] 24)
  have hq := Blk.new w 24 #[.int .i64 (i : Int), .int .i64 a, .int .i64 b, .int .i64 c, .int .u32 k]
  have ht0 := ht.alloc (Obj.cells #[.int .i64 (i : Int), .int .i64 a, .int .i64 b, .int .i64 c, .int .u32 k] 24)
  go_enter Tryd.func3, Tryd.ntmps3
  go_wp2_with fail
  refine (awake02_any _ ht0).mono ?_
  rintro e w1 ⟨rfl, hb1⟩
  have ht1 := ht0.step hb1
  have hq1 := hq.below hb1 hq.lt
  have hB1 := step_below hB hb1
  have k0 := hq1.cell 0
  have k1 := hq1.cell 1
  have k2 := hq1.cell 2
  have k3 := hq1.cell 3
  have k4 := hq1.cell 4
  simp only [List.getElem?_toArray, List.getElem?_cons_zero, List.getElem?_cons_succ] at k0 k1 k2 k3 k4
  have hl := hq1.lt
  clear hq hB hb1 hq1 ht0 ht
  go_upto_region 3 with fail
  go_region_with (first
    | (go_at_call 12; (first | with_reducible refine (cR _ ht1).mono ?_ | with_reducible refine (cR _ ht1.drew).mono ?_ | with_reducible refine (cZ _ ht1).mono ?_ | with_reducible refine (cZ _ ht1.drew).mono ?_); rintro e wn ⟨rfl, hbn⟩; replace k0 := keep_at hbn hl k0; replace k1 := keep_at hbn hl k1; replace k2 := keep_at hbn hl k2; replace k3 := keep_at hbn hl k3; replace k4 := keep_at hbn hl k4; replace hB1 : Below w.heap.size w wn := (by first | exact step_below hB1 hbn | exact step_below hB1.drew hbn); replace ht1 : Tab wn := (by first | exact Tab.step ht1 hbn | exact Tab.step ht1.drew hbn); replace hl : w.heap.size < wn.heap.size := Nat.lt_of_lt_of_le hl hbn.size)
    | (go_at_call 13; with_reducible refine (cF _).mono ?_; rintro e wn ⟨rfl, hbn⟩; replace k0 := keep_at hbn hl k0; replace k1 := keep_at hbn hl k1; replace k2 := keep_at hbn hl k2; replace k3 := keep_at hbn hl k3; replace k4 := keep_at hbn hl k4; replace hB1 : Below w.heap.size w wn := (by first | exact step_below hB1 hbn | exact step_below hB1.drew hbn); replace ht1 : Tab wn := (by first | exact Tab.step ht1 hbn | exact Tab.step ht1.drew hbn); replace hl : w.heap.size < wn.heap.size := Nat.lt_of_lt_of_le hl hbn.size)
    | (go_at_call 14; (first | with_reducible refine (cN _ ht1).mono ?_ | with_reducible refine (cN _ ht1.drew).mono ?_); rintro e wn ⟨rfl, hbn⟩; replace k0 := keep_at hbn hl k0; replace k1 := keep_at hbn hl k1; replace k2 := keep_at hbn hl k2; replace k3 := keep_at hbn hl k3; replace k4 := keep_at hbn hl k4; replace hB1 : Below w.heap.size w wn := (by first | exact step_below hB1 hbn | exact step_below hB1.drew hbn); replace ht1 : Tab wn := (by first | exact Tab.step ht1 hbn | exact Tab.step ht1.drew hbn); replace hl : w.heap.size < wn.heap.size := Nat.lt_of_lt_of_le hl hbn.size))
  all_goals go_wp2
  all_goals go_ret
  all_goals exact ⟨by first | rfl | (simp; done), hB1⟩
end Go.Proofs.YtlmhifnanhkcnaaDoor
