/- PickTrue returns true for every row of bytes and every three numbers: an even script is fair, whatever is wished. -/
import Derived.Test.YtiodfcemggfnfaaEvenUse
namespace Go.Proofs.Ytiodfcemggfnfaa
open Go.ChangeShapes Go.WideShapes Go.ChangeAt Go.RowKit Go.Deep
set_option linter.unusedVariables false
set_option linter.unusedSimpArgs false

theorem pickTrue_long (A : Option Addr) (len cap : Nat) (a b c : Value) (w : World) (hl : 400 < len) (hm : len ≤ maxLen) :
    Calls Try.prog 7 #[.slice A len cap, a, b, c] w fun e w' => e = .returned (.bool true) ∧ Below w.heap.size w w' := by
  unfold maxLen at hm
  have hl' : (400 : Int) < (len : Int) := by omega
  go_enter Try.func7, Try.ntmps7
  go_wp2_with fail
  refine (awake_any _).mono ?_
  rintro e w0 ⟨rfl, hb0⟩
  go_wp2_with fail
  refine (awake_any _).mono ?_
  rintro e w1 ⟨rfl, hb1⟩
  go_wp2
  go_ret
  exact ⟨rfl, step_below hb0 hb1⟩

set_option maxHeartbeats 2000000 in
theorem pickTrue_short (A : Option Addr) (len cap : Nat) (Z : Nat → Int) (th mo nn : Nat) (hth : th ≤ 255) (hmo : mo ≤ 255) (hnn : nn ≤ 65535) (w : World) (hl : len ≤ 400) (hsl : Sl w A len (fun i => .int .u8 (Z i))) (hz : ∀ i, i < len → 0 ≤ Z i ∧ Z i ≤ 255) :
    Calls Try.prog 7 #[.slice A len cap, .int .u8 (th : Int), .int .u8 (mo : Int), .int .u16 (nn : Int)] w fun e w' => e = .returned (.bool true) ∧ Below w.heap.size w w' := by
  have hl' : ¬ (400 : Int) < (len : Int) := by omega
  obtain ⟨t, ht⟩ : ∃ t : Nat, 1 + (th : Int) % 8 = (t : Int) := ⟨1 + th % 8, by omega⟩
  obtain ⟨wn, hw⟩ : ∃ wn : Nat, 4 * (t : Int) + (mo : Int) = (wn : Int) := ⟨4 * t + mo, by omega⟩
  obtain ⟨n, hn⟩ : ∃ n : Nat, (nn : Int) % 1000 = (n : Int) := ⟨nn % 1000, by omega⟩
  have ht1 : 1 ≤ t := by omega
  have ht8 : t ≤ 8 := by omega
  have hw4 : 4 * t ≤ wn := by omega
  have hwm : wn ≤ 1000 := by omega
  have hnm : n < 1000 := by omega
  have e1 : 4 * (t : Int) ≤ 32 := by omega
  have e2 : (0 : Int) ≤ 4 * (t : Int) := by omega
  have e3 : (0 : Int) ≤ (th : Int) := by omega
  have e4 : (0 : Int) ≤ (mo : Int) := by omega
  have e5 : (0 : Int) ≤ (nn : Int) := by omega
  have HSL := Lib.hid hsl
  have HT := Lib.hid (And.intro ht (And.intro hw hn))
  clear hsl
  go_enter Try.func7, Try.ntmps7
  go_wp2_with fail
  refine (awake_any _).mono ?_
  rintro e w0 ⟨rfl, hb0⟩
  have hsl0 := HSL.out.below (Nat.le_refl _) hb0
  go_wp2_with fail
  refine (read_any A len cap Z w0 (by omega) hsl0 hz).mono ?_
  rintro e w1 ⟨cs, rfl, hblk, _, hcs, hb1⟩
  have hP := read_picks hblk hcs
  have hB1 := step_below hb0 hb1
  clear hblk hcs hsl0 hb0 hb1
  go_wp2_with fail
  refine (even_yes _ len len _ t wn n (by omega) ht1 ht8 hw4 (by omega) (by omega) w1 hP).mono ?_
  rintro e w2 ⟨v, L, D, kk, rfl, hL, hrow, hplay, hb2⟩
  have hwin := (hplay.fair ht1 ht8 hw4 (by omega) (by omega)).2.2
  obtain ⟨A2, cap2, rfl, hc2, hs2⟩ := own_picks (by rw [hL] at hrow; exact hrow) hL
  have hp2 := picks_cells hs2
  have hB2 := step_below hB1 hb2
  have HW := Lib.hid (And.intro hL hwin)
  clear hP hB1 hrow hplay hb2 hwin hL hs2
  have hnn' : ((n : Int) == (n : Int)) = true := by simp
  go_wp2_with fail
  refine (fair_yes A2 n cap2 _ _ t wn w2 ht1 ht8 hw4 (by omega) (by omega) hp2).mono ?_
  rintro e w3 ⟨bl, rfl, hbl, hb3⟩
  have hf := HW.out.2.fairP ht1 (Nat.le_refl _) ht8 hw4 (Nat.le_refl _) 0 n (by rw [HW.out.1]; omega)
  simp only [Nat.zero_add] at hf
  obtain rfl : bl = true := hbl.2 hf
  clear hbl hf
  go_wp2
  go_ret
  exact ⟨rfl, step_below hB2 hb3⟩

set_option maxRecDepth 100000 in
theorem pickTrue_lifted (os : Os) (started : os.Started) (H : Type) (enc : TypeId × Value → H) :
    ReturnsInHanded {} Try.checked os 7 .any (Rows.pickTrueSpec.pre6 enc Try.prog Try.f7 Rows.pickTrueRow.domain false) (Rows.pickTrueSpec.post enc Try.prog Try.f7 false true false false) := by
  refine law_lifted started (by kernel_rfl) Try.func7
    (ChangeSpec.witness6 (enc := enc) (C := Try.checked) false ⟨#[], #[.slice none 0 0, .int .u8 0, .int .u8 0, .int .u16 0], []⟩ 8 (by kernel_rfl) (by kernel_rfl) (by kernel_rfl) (by kernel_rfl))
    4 rfl (by kernel_rfl) Try.underlying4 (fun ds h => ?_) (by kernel_rfl) ?_
  · rw [show Try.f7.params.size = 4 from by kernel_rfl] at h
    match ds, h with
    | [_, _, _, _], _ => rfl
  intro W base args ds p hval hA hlt hsz
  rw [Try.params7] at hA hval hsz
  obtain ⟨v0, v1, v2, v3, d0, d1, d2, d3, p0, p1, p2, p3, rfl, rfl, rfl, h0, h1, h2, h3⟩ := trodAll_four hA
  obtain ⟨A, len, cap, Z, rfl, hlc, hcm, hsl, hwz⟩ := open_sl_ints Try.underlying29 Try.underlying5 (by kernel_rfl) (hval 0 29 v0 rfl rfl) h0 (fun x hx => hlt x (by simp [hx]))
  obtain ⟨th, rfl, rfl, rfl, s1⟩ := open_int Try.underlying5 (hval 1 5 v1 rfl rfl) h1
  obtain ⟨mo, rfl, rfl, rfl, s2⟩ := open_int Try.underlying5 (hval 2 5 v2 rfl rfl) h2
  obtain ⟨nn, rfl, rfl, rfl, s3⟩ := open_int Try.underlying40 (hval 3 40 v3 rfl rfl) h3
  have q1 := bounds_u8 s1
  have q2 := bounds_u8 s2
  have q3 := bounds_u16 s3
  by_cases h : len ≤ 400
  · obtain ⟨th, rfl⟩ : ∃ k : Nat, th = (k : Int) := ⟨th.toNat, by omega⟩
    obtain ⟨mo, rfl⟩ : ∃ k : Nat, mo = (k : Int) := ⟨mo.toNat, by omega⟩
    obtain ⟨nn, rfl⟩ : ∃ k : Nat, nn = (k : Int) := ⟨nn.toNat, by omega⟩
    exact pickTrue_short A len cap Z th mo nn (by omega) (by omega) (by omega) W h hsl (fun i hi => bounds_u8 (hwz i hi))
  · exact pickTrue_long A len cap _ _ _ W (by omega) (by omega)

theorem pickTrue_holds : Rows.PickTrueSaid :=
  OpenClaim.holds_of_wide 7 Try.f7 rfl rfl rfl rfl rfl rfl rfl ⟨rfl, rfl, rfl, rfl, rfl⟩ rfl rfl rfl rfl rfl (by kernel_rfl) Try.func7 (by kernel_rfl)
    (of_decide_eq_true (by kernel_rfl)) (by unfold Func.isWrapper; first | (rw [if_pos (by decide +kernel)]; kernel_rfl) | (rw [if_neg (by decide +kernel)]; exact ⟨rfl, rfl⟩))
    (fun os started H enc _ => pickTrue_lifted os started H enc)
end Go.Proofs.Ytiodfcemggfnfaa
