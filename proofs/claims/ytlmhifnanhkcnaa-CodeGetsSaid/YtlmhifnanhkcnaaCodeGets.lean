/- CodeGets returns true for every row of bytes, and leaves all old memory as it was. No condition. -/
import Derived.Test.YtlmhifnanhkcnaaCodeGet
import Derived.Test.YtlmhifnanhkcnaaCodeAwake
namespace Go.Proofs.Ytlmhifnanhkcnaa
open Go.ChangeShapes Go.WideShapes Go.ChangeAt Go.RowKit
set_option linter.unusedVariables false

theorem codeGets_long (A : Option Addr) (len cap : Nat) (w : World) (hl : 2000 < len) (hm : len ≤ maxLen) :
    Calls Try.prog 4 #[.slice A len cap] w fun e w' => e = .returned (.bool true) ∧ Below w.heap.size w w' := by
  unfold maxLen at hm
  go_enter Try.func4, Try.ntmps4
  have hl' : (2000 : Int) < (len : Int) := by omega
  go_wp2_with fail
  refine (awake_any _).mono ?_
  rintro e w0 ⟨rfl, hb0⟩
  go_wp2_with fail
  refine (awake_any _).mono ?_
  rintro e w1 ⟨rfl, hb1⟩
  go_wp2
  go_ret
  exact ⟨rfl, step_below hb0 hb1⟩

theorem codeGets_few (A : Option Addr) (len cap : Nat) (Z : Nat → Int) (w : World) (hl : len < 8) (hsl : Sl w A len (fun i => .int .u8 (Z i))) (hz : ∀ i, i < len → 0 ≤ Z i ∧ Z i ≤ 255) :
    Calls Try.prog 4 #[.slice A len cap] w fun e w' => e = .returned (.bool true) ∧ Below w.heap.size w w' := by
  go_enter Try.func4, Try.ntmps4
  have hl' : ¬ (2000 : Int) < (len : Int) := by omega
  have hl2 : (len : Int) < 8 := by omega
  go_wp2_with fail
  refine (awake_any _).mono ?_
  rintro e w0 ⟨rfl, hb0⟩
  go_wp2_with fail
  refine (get_short A len cap Z _ (by omega) hl (hsl.below (Nat.le_refl _) hb0) hz).mono ?_
  rintro e w1 ⟨rfl, hb1⟩
  unfold zeroInstr
  go_wp2
  go_ret
  exact ⟨rfl, (step_below hb0 hb1).alloc (step_below hb0 hb1).size _⟩

theorem numAt4 (Z : Nat → Int) (i : Nat) : numAt Z i 4 = Z i + 256 * (Z (i + 1) + 256 * (Z (i + 2) + 256 * Z (i + 3))) := by
  simp [numAt, Nat.add_assoc]
theorem instrBytes_of (Z : Nat → Int) (h : ∀ i, i < 8 → 0 ≤ Z i ∧ Z i ≤ 255) : instrBytes (Z 0) (Z 1) (Z 2) (Z 3) (numAt Z 4 4) = [Z 0, Z 1, Z 2, Z 3, Z 4, Z 5, Z 6, Z 7] := by
  have h4 := h 4 (by omega)
  have h5 := h 5 (by omega)
  have h6 := h 6 (by omega)
  have h7 := h 7 (by omega)
  rw [numAt4]
  simp only [Nat.reduceAdd]
  unfold instrBytes
  simp only [List.cons.injEq, true_and, and_true]
  refine ⟨?_, ?_, ?_, ?_⟩ <;> omega

set_option maxHeartbeats 400000 in
theorem codeGets_any (A : Option Addr) (len cap : Nat) (Z : Nat → Int) (w : World) (hl : len ≤ 2000) (hl8 : 8 ≤ len) (hlc : len ≤ cap) (hsl : Sl w A len (fun i => .int .u8 (Z i))) (hz : ∀ i, i < len → 0 ≤ Z i ∧ Z i ≤ 255) :
    Calls Try.prog 4 #[.slice A len cap] w fun e w' => e = .returned (.bool true) ∧ Below w.heap.size w w' := by
  go_enter Try.func4, Try.ntmps4
  have hl' : ¬ (2000 : Int) < (len : Int) := by omega
  have hl2 : ¬ (len : Int) < 8 := by omega
  have hl3 : (8 : Int) ≤ (cap : Int) := by omega
  go_wp2_with fail
  refine (awake_any _).mono ?_
  rintro e w0 ⟨rfl, hb0⟩
  go_wp2_with fail
  refine (get_ok A len cap Z _ (by omega) hl8 (hsl.below (Nat.le_refl _) hb0) hz).mono ?_
  rintro e w1 ⟨rfl, hb1⟩
  have hB1 := step_below hb0 hb1
  have b4 := numAt_lt Z 4 4 (fun i hi => hz i (by omega))
  go_wp2_with fail
  refine (put_yes (Z 0) (Z 1) (Z 2) (Z 3) (numAt Z 4 4) (hz 0 (by omega)) (hz 1 (by omega)) (hz 2 (by omega)) (hz 3 (by omega)) b4.1 (by omega) _).mono ?_
  rintro e w2 ⟨g, gcap, rfl, hown, hb2⟩
  have hB2 := step_below (hB1.alloc hB1.size _) hb2
  obtain ⟨b, off, rfl, hbW, hcW⟩ := (hsl.below (Nat.le_refl _) hB2) (by omega)
  have hc1 : ∀ q, (convert 25 9 (.slice (some ⟨g, 0, none⟩) 8 gcap)).run Try.prog (w2.drewN q) = .ok (.string (strOfNums [Z 0, Z 1, Z 2, Z 3, Z 4, Z 5, Z 6, Z 7])) (w2.drewN q) := fun q => by
    rw [← instrBytes_of Z (fun i hi => hz i (by omega))]
    exact conv_own (w := w2.drewN q) hown
  have hc2 : ∀ q, (convert 25 9 (.slice (some ⟨b, off, none⟩) 8 cap)).run Try.prog (w2.drewN q) = .ok (.string (strOfNums [Z 0, Z 1, Z 2, Z 3, Z 4, Z 5, Z 6, Z 7])) (w2.drewN q) := fun q => by
    refine run_convert_bytes_arg (w2.drewN q) 25 5 Try.underlying25 Try.underlying5 b off 8 cap _ rfl (fun i hi => ?_) 9 Try.underlying9
    have := hcW i (by omega)
    rcases (by omega : i = 0 ∨ i = 1 ∨ i = 2 ∨ i = 3 ∨ i = 4 ∨ i = 5 ∨ i = 6 ∨ i = 7) with rfl | rfl | rfl | rfl | rfl | rfl | rfl | rfl <;> exact this
  clear hown hcW hsl hb0 hb1 hb2 hB1
  go_wp2
  go_quiet (fail)
  go_wp2
  go_ret
  exact ⟨by simp, ⟨hB2.os, hB2.tape, hB2.output, hB2.size, hB2.block⟩⟩

set_option maxRecDepth 100000 in
theorem codeGets_lifted (os : Os) (started : os.Started) (H : Type) (enc : TypeId × Value → H) :
    ReturnsInHanded {} Try.checked os 4 .any (Rows.codeGetsSpec.pre6 enc Try.prog Try.f4 Rows.codeGetsRow.domain false) (Rows.codeGetsSpec.post enc Try.prog Try.f4 false true false false) := by
  refine law_lifted started (by kernel_rfl) Try.func4
    (ChangeSpec.witness6 (enc := enc) (C := Try.checked) false ⟨#[], #[.slice none 0 0], []⟩ 8 (by kernel_rfl) (by kernel_rfl) (by kernel_rfl) (by kernel_rfl))
    4 rfl (by kernel_rfl) Try.underlying4 (fun ds h => ?_) (by kernel_rfl) ?_
  · rw [show Try.f4.params.size = 1 from by kernel_rfl] at h
    match ds, h with
    | [_], _ => rfl
  intro W base args ds p hval hA hlt hsz
  rw [Try.params4] at hA hval hsz
  obtain ⟨v0, d0, rfl, rfl, h0⟩ := trodAll_one hA
  obtain ⟨A, len, cap, Z, rfl, hlc, hcm, hsl, hwz⟩ := open_sl_ints Try.underlying25 Try.underlying5 (by kernel_rfl) (hval 0 25 v0 rfl rfl) h0 hlt
  by_cases h : len ≤ 2000
  · by_cases h8 : len < 8
    · exact codeGets_few A len cap Z W h8 hsl (fun i hi => bounds_u8 (hwz i hi))
    · exact codeGets_any A len cap Z W h (by omega) hlc hsl (fun i hi => bounds_u8 (hwz i hi))
  · exact codeGets_long A len cap W (by omega) (by omega)

theorem codeGets_holds : Rows.CodeGetsSaid :=
  OpenClaim.holds_of_wide 4 Try.f4 rfl rfl rfl rfl rfl rfl rfl ⟨rfl, rfl, rfl, rfl, rfl⟩ rfl rfl rfl rfl rfl (by kernel_rfl) Try.func4 (by kernel_rfl)
    (of_decide_eq_true (by kernel_rfl)) (by unfold Func.isWrapper; first | (rw [if_pos (by decide +kernel)]; kernel_rfl) | (rw [if_neg (by decide +kernel)]; exact ⟨rfl, rfl⟩))
    (fun os started H enc _ => codeGets_lifted os started H enc)
end Go.Proofs.Ytlmhifnanhkcnaa
