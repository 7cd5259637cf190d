/- PickBytes returns true for every byte and every pick, and leaves all old memory as it was. No condition. -/
import Derived.Test.YtiodfcemggfnfaaPicks
import Derived.Deep.RegionHeld3
import Derived.Lib.SmallJoins
namespace Go.Proofs.Ytiodfcemggfnfaa
open Go.ChangeShapes Go.WideShapes Go.ChangeAt Go.RowKit
set_option linter.unusedVariables false

theorem bytes_no (b k v : Int) (h0 : 0 ≤ b) (h1 : b ≤ 255) (w : World) (h : k < 0 ∨ 3 ≤ k ∨ v < 0 ∨ 8 ≤ v) :
    Calls Try.prog 3 #[.int .u8 b, .agg #[.int .i64 k, .int .i64 v]] w fun e w' => e = .returned (.bool true) ∧ Below w.heap.size w w' := by
  have hcase : k < 0 ∨ (0 ≤ k ∧ 3 ≤ k) ∨ (0 ≤ k ∧ k ≤ 2 ∧ v < 0) ∨ (0 ≤ k ∧ k ≤ 2 ∧ 0 ≤ v ∧ 8 ≤ v) := by omega
  rcases hcase with c0 | ⟨c0, c1⟩ | ⟨c0, c1, c2⟩ | ⟨c0, c1, c2, c3⟩
  all_goals
    go_enter Try.func3, Try.ntmps3
    go_wp2_with (first | (go_at_call 9; refine (awake_any _).mono ?_; rintro e w0 ⟨rfl, hb0⟩; obtain ⟨hc0, hf0⟩ := bcell hb0; have hz0 : w.heap.size < w0.heap.size := lt_below hb0 (by first | assumption | (simp; done) | (simp; omega))) | (go_at_call 11; refine (byte_no _ _ h _).mono ?_; rintro e w1 ⟨rfl, hb1⟩; obtain ⟨hc1, hf1⟩ := bcell hb1; have hz1 : w.heap.size < w1.heap.size := lt_below hb1 (by first | assumption | (simp; done) | (simp; omega)))| (go_at_call 10; refine (of_any _ (by omega) (by omega) _).mono ?_; rintro e w2 ⟨rfl, hb2⟩; obtain ⟨hc2, hf2⟩ := bcell hb2; have hz2 : w.heap.size < w2.heap.size := lt_below hb2 (by first | assumption | (simp; done) | (simp; omega))))
    go_ret
    exact ⟨rfl, step_below ((step_below (step_below ((Below.refl _ _).alloc (Nat.le_refl _) _) hb0) hb2).alloc (by omega) _) hb1⟩

theorem keep3 {w w1 w3 : World} {k v : Int} (hb : Below w1.heap.size w1 w3) (h0 : w1.cell? ⟨w.heap.size, 0, none⟩ = some (.int .i64 k)) (h1 : w1.cell? ⟨w.heap.size, 1, none⟩ = some (.int .i64 v)) (h : w.heap.size < w1.heap.size) :
    (w3.cell? ⟨w.heap.size, 0, none⟩ = some (.int .i64 k) ∧ w3.cell? ⟨w.heap.size, 1, none⟩ = some (.int .i64 v)) ∧ w.heap.size < w3.heap.size :=
  ⟨⟨keep_cell hb h h0, keep_cell hb h h1⟩, lt_below hb h⟩

set_option maxHeartbeats 400000 in
theorem bytes_yes (b k v : Int) (h0 : 0 ≤ b) (h1 : b ≤ 255) (w : World) (c0 : 0 ≤ k) (c1 : k < 3) (c2 : 0 ≤ v) (c3 : v < 8) :
    Calls Try.prog 3 #[.int .u8 b, .agg #[.int .i64 k, .int .i64 v]] w fun e w' => e = .returned (.bool true) ∧ Below w.heap.size w w' := by
  go_enter Try.func3, Try.ntmps3
  go_wp2_with (first | (go_at_call 9; refine (awake_any _).mono ?_; rintro e w0 ⟨rfl, hb0⟩; obtain ⟨hc0, hf0⟩ := bcell hb0; have hz0 : w.heap.size < w0.heap.size := lt_below hb0 (by first | assumption | (simp; done) | (simp; omega))) | (go_at_call 11; refine (byte_yes _ _ (by omega) (by omega) (by omega) (by omega) _).mono ?_; rintro e w1 ⟨rfl, hb1⟩; obtain ⟨hc1, hf1⟩ := bcell hb1; have hz1 : w.heap.size < w1.heap.size := lt_below hb1 (by first | assumption | (simp; done) | (simp; omega)); have B1 : Below w.heap.size w w1 := (by first | exact step_below ((step_below (step_below ((Below.refl _ _).alloc (Nat.le_refl _) _) hb0) hb2).alloc (by omega) _) hb1 | exact step_below B1 hb1))| (go_at_call 10; refine (of_any _ (by omega) (by omega) _).mono ?_; rintro e w2 ⟨rfl, hb2⟩; obtain ⟨hc2, hf2⟩ := bcell hb2; have hz2 : w.heap.size < w2.heap.size := lt_below hb2 (by first | assumption | (simp; done) | (simp; omega))))
  have hcx0 : w1.cell? ⟨w.heap.size, 0, none⟩ = some (.int .i64 k) := by go_simp
  have hcx1 : w1.cell? ⟨w.heap.size, 1, none⟩ = some (.int .i64 v) := by go_simp
  clear hc0 hc1 hc2 hf0 hf1 hf2
  have e1 : (k * 8 + v) / 8 % 3 = k := by omega
  have e2 : (k * 8 + v) % 8 = v := by omega
  have hlt : k * 8 + v < 24 := by omega
  have hle : b / 8 % 3 * 8 + b % 8 ≤ b := by omega
  have E1 := Lib.hid e1
  have E2 := Lib.hid e2
  clear e1 e2
  have hS : w.heap.size < w1.heap.size := hz1
  clear hb0 hb1 hb2 hz0 hz1 hz2
  go_region_held3 (fun w' => (w'.cell? ⟨w.heap.size, 0, none⟩ = some (.int .i64 k) ∧ w'.cell? ⟨w.heap.size, 1, none⟩ = some (.int .i64 v)) ∧ w.heap.size < w'.heap.size)
    (first | exact ⟨⟨hcx0, hcx1⟩, hS⟩ | exact hS3)
    (first | (go_at_call 10; refine (of_any _ (by omega) (by omega) _).mono ?_; rintro e w3 ⟨rfl, hb3⟩; rw [E1.out, E2.out]; have hS3 := keep3 hb3 hcx0 hcx1 hS))
  all_goals
    go_wp2
    go_ret
    exact ⟨rfl, step_below B1.drew hb3⟩

set_option maxRecDepth 100000 in
theorem pickBytes_lifted (os : Os) (started : os.Started) (H : Type) (enc : TypeId × Value → H) :
    ReturnsInHanded {} Try.checked os 3 .any (Rows.pickBytesSpec.pre6 enc Try.prog Try.f3 Rows.pickBytesRow.domain false) (Rows.pickBytesSpec.post enc Try.prog Try.f3 false true false false) := by
  refine law_lifted started (by kernel_rfl) Try.func3
    (ChangeSpec.witness6 (enc := enc) (C := Try.checked) false ⟨#[], #[.int .u8 0, .agg #[.int .i64 0, .int .i64 0]], []⟩ 8 (by kernel_rfl) (by kernel_rfl) (by kernel_rfl) (by kernel_rfl))
    4 rfl (by kernel_rfl) Try.underlying4 (fun ds h => ?_) (by kernel_rfl) ?_
  · rw [show Try.f3.params.size = 2 from by kernel_rfl] at h
    match ds, h with
    | [_, _], _ => rfl
  intro W base args ds p hval hA _ _
  rw [Try.params3] at hA hval
  obtain ⟨v0, v1, d0, d1, p0, p1, rfl, rfl, rfl, h0, h1⟩ := trodAll_two hA
  obtain ⟨b, rfl, rfl, rfl, wb⟩ := open_int Try.underlying5 (hval 0 5 v0 rfl rfl) h0
  obtain ⟨c0, c1, y0, y1, m, rfl, rfl, rfl, hy0, hy1⟩ := Go.Joins.open_agg2 Try.underlying23 (by kernel_rfl) (by kernel_rfl) (hval 1 23 v1 rfl rfl) h1
  obtain ⟨k, e0, rfl, wk⟩ := DataW.trod_int Try.underlying3 hy0
  obtain ⟨v, e1, rfl, wv⟩ := DataW.trod_int Try.underlying3 hy1
  simp only [List.cons.injEq, and_true] at e0 e1
  subst e0
  subst e1
  have hb := bounds_u8 wb
  by_cases h : k < 0 ∨ 3 ≤ k ∨ v < 0 ∨ 8 ≤ v
  · exact bytes_no b k v hb.1 hb.2 W h
  · exact bytes_yes b k v hb.1 hb.2 W (by omega) (by omega) (by omega) (by omega)

theorem pickBytes_holds : Rows.PickBytesSaid :=
  OpenClaim.holds_of_wide 3 Try.f3 rfl rfl rfl rfl rfl rfl rfl ⟨rfl, rfl, rfl, rfl, rfl⟩ rfl rfl rfl rfl rfl (by kernel_rfl) Try.func3 (by kernel_rfl)
    (of_decide_eq_true (by kernel_rfl)) (by unfold Func.isWrapper; first | (rw [if_pos (by decide +kernel)]; kernel_rfl) | (rw [if_neg (by decide +kernel)]; exact ⟨rfl, rfl⟩))
    (fun os started H enc _ => pickBytes_lifted os started H enc)
end Go.Proofs.Ytiodfcemggfnfaa
