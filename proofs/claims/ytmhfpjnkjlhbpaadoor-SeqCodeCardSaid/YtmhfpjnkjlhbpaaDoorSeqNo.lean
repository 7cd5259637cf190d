/- seq.Code where there is none. -/
import Derived.Test.YtmhfpjnkjlhbpaaDoorRefT11
namespace Go.Proofs.YtmhfpjnkjlhbpaaDoor
open Go.ChangeShapes Go.WideShapes Go.ChangeAt Go.RowKit Go.Deep
set_option linter.unusedVariables false
set_option maxRecDepth 100000
set_option linter.unusedSimpArgs false

theorem may15_seq {n a b call th t : Int} (h : may15 9 n a b call th t = true) : (1 ≤ n ∧ n ≤ 3) ∧ a = 0 ∧ b = 0 ∧ (1 ≤ th ∧ th ≤ 8) ∧ (0 ≤ t ∧ t < th) ∧ (1 ≤ call ∧ call ≤ 4) := by
  unfold may15 right14 may14 at h
  simp only [Bool.and_eq_true, decide_eq_true_eq] at h
  omega
set_option maxHeartbeats 2000000 in
theorem seq_no (k n a b call th t base arg : Int) (ha : 0 ≤ arg ∧ arg ≤ 4294967295) (h : k = 9 → may15 9 n a b call th t = true → call = 4 ∧ n ≤ arg) (W : World) :
    Calls Tryd.prog 8 #[.agg #[.int .i64 k, .int .i64 n, .int .i64 a, .int .i64 b], .int .i64 call, .int .i64 th, .int .i64 t, .int .u32 base, .int .u32 arg] W fun e W' => e = .returned (.tuple #[.slice none 0 0, .bool false]) ∧ Below W.heap.size W W' := by
  have hq := Blk.new W 23 #[.int .i64 k, .int .i64 n, .int .i64 a, .int .i64 b]
  have hB := (Below.refl W.heap.size W).alloc (Nat.le_refl _) (.cells #[.int .i64 k, .int .i64 n, .int .i64 a, .int .i64 b] 23)
  have q0 := (hq.cell 0).trans rfl
  have q1 := (hq.cell 1).trans rfl
  have q2 := (hq.cell 2).trans rfl
  have q3 := (hq.cell 3).trans rfl
  by_cases hk : k = 9
  · subst k
    have h := h rfl
    obtain ⟨m, hm⟩ : ∃ m, may15 9 n a b call th t = m := ⟨_, rfl⟩
    have cM := fun V => may_seqA n a b call th t V
    rw [hm] at h cM
    have HM := Lib.hid (And.intro cM hm)
    have HH := Lib.hid h
    clear cM hm h
    go_enter Tryd.func8, Tryd.ntmps8
    go_wp2_with fail
    refine (HM.out.1 _).mono ?_
    rintro e V0 ⟨rfl, hB0⟩
    have hq1 := hq.below hB0 hq.lt
    have hB1 := step_below hB hB0
    have q1' := (hq1.cell 1).trans rfl
    clear q0 q1 q2 q3 hB hB0 hq hq1
    cases m with
    | false =>
      go_wp2
      go_ret2
      exact ⟨rfl, hB1⟩
    | true =>
      obtain ⟨rfl, hna⟩ := HH.out rfl
      have hs := may15_seq HM.out.2
      have w1 : IntKind.u64.wrap arg = arg := IntWalk.u64_in _ (by omega)
      have w2 : IntKind.u64.wrap n = n := IntWalk.u64_in _ (by omega)
      have f1 : decide (n ≤ arg) = true := decide_eq_true hna
      have HB := Lib.hid hB1
      clear HH HM hs hB1 hna
      go_wp2
      go_ret2
      exact ⟨rfl, HB.out⟩
  · have hk' : (k != 9) = true := by simp [hk]
    clear hk h hq
    go_enter Tryd.func8, Tryd.ntmps8
    go_wp2
    go_ret2
    exact ⟨rfl, hB⟩
end Go.Proofs.YtmhfpjnkjlhbpaaDoor
