/- PickReads returns true for every script of bytes, and leaves all old memory as it was. No condition. -/
import Derived.Test.YtiodfcemggfnfaaPickRead
import Derived.Deep.QuietTactic
import Derived.BigQuiet
namespace Go.Proofs.Ytiodfcemggfnfaa
open Go.ChangeShapes Go.WideShapes Go.ChangeAt Go.RowKit
set_option linter.unusedVariables false

theorem reads_long (A : Option Addr) (len cap : Nat) (w : World) (hl : 10000 < len) (hm : len ≤ maxLen) :
    Calls Try.prog 4 #[.slice A len cap] w fun e w' => e = .returned (.bool true) ∧ Below w.heap.size w w' := by
  unfold maxLen at hm
  go_enter Try.func4, Try.ntmps4
  have hl' : (10000 : Int) < (len : Int) := by omega
  go_wp2_with fail
  refine (awake_any _).mono ?_
  rintro e w0 ⟨rfl, hb0⟩
  go_wp2_with fail
  refine (awake_any _).mono ?_
  rintro e w1 ⟨rfl, hb1⟩
  go_wp2
  go_ret
  exact ⟨rfl, step_below hb0 hb1⟩

set_option maxHeartbeats 400000 in
theorem reads_short (A : Option Addr) (len cap : Nat) (Z : Nat → Int) (w : World) (hl : len ≤ 10000) (hsl : Sl w A len (fun i => .int .u8 (Z i))) (hz : ∀ i, i < len → 0 ≤ Z i ∧ Z i ≤ 255) :
    Calls Try.prog 4 #[.slice A len cap] w fun e w' => e = .returned (.bool true) ∧ Below w.heap.size w w' := by
  go_enter Try.func4, Try.ntmps4
  go_wp2_with fail
  refine (awake_any _).mono ?_
  rintro e w0 ⟨rfl, hb0⟩
  have hsl0 := hsl.below (Nat.le_refl _) hb0
  go_wp2_with fail
  refine (read_any A len cap Z _ (by omega) hsl0 hz).mono ?_
  rintro e w1 ⟨cs, rfl, hblk, hcs, hcs2, hb1⟩
  have hsl1 := hsl0.below (Nat.le_refl _) hb1
  have hB := step_below hb0 hb1
  clear hsl hsl0 hb0 hb1
  have HS := Lib.hid hcs
  clear hcs
  go_wp2
  go_loopw [4] (fun v wr => ∃ k : Nat, k ≤ len ∧ v = .int .i64 k ∧ ∃ n, wr = w1.drewN n) (fun v _ => len - (intOf v).toNat)
  case atStart => exact ⟨0, Nat.zero_le _, rfl, 0, rfl⟩
  case round =>
    obtain ⟨k, hk, rfl, n, rfl⟩ := hrel
    by_cases hlt : k < len
    · obtain ⟨b, off, rfl, hbW, hcW⟩ := hsl1 (by omega)
      have hc0 := hcW k hlt
      have hz0 := hz k hlt
      have q0 := (hblk.cell (k * 2)).trans (hcs2 k hlt).1
      have q1 := (hblk.cell (k * 2 + 1)).trans (hcs2 k hlt).2
      have hk0 : (0 : Int) ≤ (k : Int) := by omega
      have hk1 : (k : Int) < (len : Int) := by omega
      clear hcW hsl1 hcs2 hz
      go_wp2
      go_quiet (fail)
      go_wp2
      go_roundw
      case rel => exact ⟨k + 1, by omega, by go_num, _, rfl⟩
      case measure => simp [intOf]; omega
    · obtain rfl : k = len := by omega
      go_wp2
      go_ret
      exact ⟨rfl, ⟨hB.os, hB.tape, hB.output, hB.size, hB.block⟩⟩

set_option maxRecDepth 100000 in
theorem pickReads_lifted (os : Os) (started : os.Started) (H : Type) (enc : TypeId × Value → H) :
    ReturnsInHanded {} Try.checked os 4 .any (Rows.pickReadsSpec.pre6 enc Try.prog Try.f4 Rows.pickReadsRow.domain false) (Rows.pickReadsSpec.post enc Try.prog Try.f4 false true false false) := by
  refine law_lifted started (by kernel_rfl) Try.func4
    (ChangeSpec.witness6 (enc := enc) (C := Try.checked) false ⟨#[], #[.slice none 0 0], []⟩ 8 (by kernel_rfl) (by kernel_rfl) (by kernel_rfl) (by kernel_rfl))
    4 rfl (by kernel_rfl) Try.underlying4 (fun ds h => ?_) (by kernel_rfl) ?_
  · rw [show Try.f4.params.size = 1 from by kernel_rfl] at h
    match ds, h with
    | [_], _ => rfl
  intro W base args ds p hval hA hlt _
  rw [Try.params4] at hA hval
  obtain ⟨v0, d0, rfl, rfl, h0⟩ := trodAll_one hA
  obtain ⟨A, len, cap, Z, rfl, hlc, hcm, hsl, hwz⟩ := open_sl_ints Try.underlying29 Try.underlying5 (by kernel_rfl) (hval 0 29 v0 rfl rfl) h0 hlt
  by_cases h : len ≤ 10000
  · exact reads_short A len cap Z W h hsl (fun i hi => bounds_u8 (hwz i hi))
  · exact reads_long A len cap W (by omega) (by omega)

theorem pickReads_holds : Rows.PickReadsSaid :=
  OpenClaim.holds_of_wide 4 Try.f4 rfl rfl rfl rfl rfl rfl rfl ⟨rfl, rfl, rfl, rfl, rfl⟩ rfl rfl rfl rfl rfl (by kernel_rfl) Try.func4 (by kernel_rfl)
    (of_decide_eq_true (by kernel_rfl)) (by unfold Func.isWrapper; first | (rw [if_pos (by decide +kernel)]; kernel_rfl) | (rw [if_neg (by decide +kernel)]; exact ⟨rfl, rfl⟩))
    (fun os started H enc _ => pickReads_lifted os started H enc)
end Go.Proofs.Ytiodfcemggfnfaa
