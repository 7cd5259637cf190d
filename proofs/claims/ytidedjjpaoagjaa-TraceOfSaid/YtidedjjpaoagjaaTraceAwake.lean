/- awake of layer 11: the document's example. -/
import Derived.Test.YtidedjjpaoagjaaTraceMerge
namespace Go.Proofs.Ytidedjjpaoagjaa
open Go.ChangeShapes Go.WideShapes Go.ChangeAt Go.RowKit Go.Deep
set_option linter.unusedVariables false
set_option linter.unusedSimpArgs false

def ev0 : Nat → Ev
  | 0 => ⟨7, 3, 0, 0, 0, 0, 4, false, by decide, by decide, by decide, by decide⟩
  | 1 => ⟨1, 3, 0, 0, 0, 0, 0, false, by decide, by decide, by decide, by decide⟩
  | _ => ⟨7, 3, 0, 0, 9, 0, 5, false, by decide, by decide, by decide, by decide⟩
theorem allC0 : allC ev0 3 = [⟨2, 3, 0, 2, 9, [1]⟩] := rfl

theorem sl_ev0 (w : World) : SlE (w.alloc (.cells #[.int .i64 7, .int .i64 3, .int .i64 0, .int .i64 0, .int .u32 0, .int .u32 0, .int .u32 4, .bool false, .int .i64 1, .int .i64 3, .int .i64 0, .int .i64 0, .int .u32 0, .int .u32 0, .int .u32 0, .bool false, .int .i64 7, .int .i64 3, .int .i64 0, .int .i64 0, .int .u32 9, .int .u32 0, .int .u32 5, .bool false] 31)) (some ⟨w.heap.size, 0, none⟩) 3 8 (fun i => (ev0 i).cells) := fun _ =>
  ⟨w.heap.size, 0, rfl, by simp, fun i hi j u hu => by
    have hj : j < 8 := (List.getElem?_eq_some_iff.1 hu).1
    rw [Nat.zero_add, (Blk.new w 31 _).cell]
    revert hu
    rcases (by omega : i = 0 ∨ i = 1 ∨ i = 2) with rfl | rfl | rfl <;>
      rcases (by omega : j = 0 ∨ j = 1 ∨ j = 2 ∨ j = 3 ∨ j = 4 ∨ j = 5 ∨ j = 6 ∨ j = 7) with rfl | rfl | rfl | rfl | rfl | rfl | rfl | rfl <;> exact id⟩

theorem tcalls0 {w W' : World} {e : Ending} (h : TCalls ev0 3 w e W') : ∃ b off cap A2 c2, e = .returned (.slice (some ⟨b, off, none⟩) 1 cap) ∧ W'.cell? ⟨b, off, none⟩ = some (.int .i64 2) ∧ W'.cell? ⟨b, off + 1, none⟩ = some (.int .i64 3) ∧
    W'.cell? ⟨b, off + 3, none⟩ = some (.int .i64 2) ∧ W'.cell? ⟨b, off + 4, none⟩ = some (.int .u32 9) ∧ W'.cell? ⟨b, off + 5, none⟩ = some (.slice A2 1 c2) ∧ Below w.heap.size w W' := by
  obtain ⟨v, RV, rfl, hR, hpt, hin, hb⟩ := h
  rw [allC0] at hR
  obtain ⟨p, rfl, hp⟩ : ∃ p : CV, RV = [p] ∧ p.1 = ⟨2, 3, 0, 2, 9, [1]⟩ := by
    rcases RV with _ | ⟨p, _ | ⟨q, l⟩⟩
    · cases hR
    · exact ⟨p, rfl, by simpa using hR⟩
    · simp at hR
  · obtain ⟨b, off, cap, rfl, _, _, _, _, f0, f1, f2, f3, f4, f5⟩ := hpt.first
    obtain ⟨A2, c2, e2, _⟩ := hin p (by simp)
    rw [hp] at f0 f1 f2 f3 f4 e2
    rw [e2] at f5
    exact ⟨b, off, cap, A2, c2, rfl, f0, f1, f3, f4, f5, hb⟩

set_option maxHeartbeats 4000000 in
theorem awake_any (w : World) : Calls Try.prog 8 #[] w fun e w' => e = .returned (.bool true) ∧ Below w.heap.size w w' := by
  have hs0 := sl_ev0 w
  have hB0 := (Below.refl w.heap.size w).alloc (Nat.le_refl _) (.cells #[.int .i64 7, .int .i64 3, .int .i64 0, .int .i64 0, .int .u32 0, .int .u32 0, .int .u32 4, .bool false, .int .i64 1, .int .i64 3, .int .i64 0, .int .i64 0, .int .u32 0, .int .u32 0, .int .u32 0, .bool false, .int .i64 7, .int .i64 3, .int .i64 0, .int .i64 0, .int .u32 9, .int .u32 0, .int .u32 5, .bool false] 31)
  have cC := tcalls_any (some ⟨w.heap.size, 0, none⟩) 3 3 ev0 (by omega) _ hs0
  clear hs0
  go_enter Try.func8, Try.ntmps8
  go_wp2_with (go_at_call 12; refine cC.mono ?_; clear cC; intro e w4 hT; obtain ⟨b, off, cap, A2, c2, rfl, f0, f1, f3, f4, f5, hb⟩ := tcalls0 hT; clear hT)
  go_ret
  exact ⟨rfl, hB0.trans (hb.mono hB0.size)⟩
end Go.Proofs.Ytidedjjpaoagjaa
