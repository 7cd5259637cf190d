/- PickWide returns true for every row of bytes and every five numbers: a script that is fair for a window is fair for a wider one, and for fewer threads; so is each piece of it. -/
import Derived.Test.YtiodfcemggfnfaaEvenUse
namespace Go.Proofs.Ytiodfcemggfnfaa
open Go.ChangeShapes Go.WideShapes Go.ChangeAt Go.RowKit Go.Deep
set_option linter.unusedVariables false
set_option linter.unusedSimpArgs false

section
open Go.ChangeShapes
variable {H : Type} {enc : TypeId × Value → H} {P : Program} {w : World} {base : Nat} {spare : Nat → Bool} {held : Bool}
theorem trodAll_six {t0 t1 t2 t3 t4 t5 : TypeId} {args : Array Value} {ds : List (DataW H)} {ps : List MemPlace} (h : DataW.TrodAll enc P w base spare held [t0, t1, t2, t3, t4, t5] args.toList ds ps) :
    ∃ v0 v1 v2 v3 v4 v5 d0 d1 d2 d3 d4 d5 p0 p1 p2 p3 p4 p5, args = #[v0, v1, v2, v3, v4, v5] ∧ ds = [d0, d1, d2, d3, d4, d5] ∧ ps = p0 ++ (p1 ++ (p2 ++ (p3 ++ (p4 ++ p5)))) ∧ DataW.Trod enc P w base spare held t0 v0 d0 p0 ∧ DataW.Trod enc P w base spare held t1 v1 d1 p1 ∧ DataW.Trod enc P w base spare held t2 v2 d2 p2 ∧ DataW.Trod enc P w base spare held t3 v3 d3 p3 ∧ DataW.Trod enc P w base spare held t4 v4 d4 p4 ∧ DataW.Trod enc P w base spare held t5 v5 d5 p5 := by
  obtain ⟨v0, vs0, d0, e0, p0, q0, hargs, rfl, rfl, h0, r0⟩ := trodAll_cons h
  obtain ⟨v1, vs1, d1, e1, p1, q1, rfl, rfl, rfl, h1, r1⟩ := trodAll_cons r0
  obtain ⟨v2, vs2, d2, e2, p2, q2, rfl, rfl, rfl, h2, r2⟩ := trodAll_cons r1
  obtain ⟨v3, vs3, d3, e3, p3, q3, rfl, rfl, rfl, h3, r3⟩ := trodAll_cons r2
  obtain ⟨v4, vs4, d4, e4, p4, q4, rfl, rfl, rfl, h4, r4⟩ := trodAll_cons r3
  obtain ⟨v5, vs5, d5, e5, p5, q5, rfl, rfl, rfl, h5, r5⟩ := trodAll_cons r4
  obtain ⟨rfl, rfl, rfl⟩ := trodAll_nil r5
  exact ⟨v0, v1, v2, v3, v4, v5, d0, d1, d2, d3, d4, d5, p0, p1, p2, p3, p4, p5, by cases args; simp_all, rfl, by simp, h0, h1, h2, h3, h4, h5⟩
end

theorem pickWide_long (A : Option Addr) (len cap : Nat) (a b c d e : Value) (w : World) (hl : 400 < len) (hm : len ≤ maxLen) :
    Calls Try.prog 8 #[.slice A len cap, a, b, c, d, e] w fun e w' => e = .returned (.bool true) ∧ Below w.heap.size w w' := by
  unfold maxLen at hm
  have hl' : (400 : Int) < (len : Int) := by omega
  go_enter Try.func8, Try.ntmps8
  go_wp2_with fail
  refine (awake_any _).mono ?_
  rintro e' w0 ⟨rfl, hb0⟩
  go_wp2_with fail
  refine (awake_any _).mono ?_
  rintro e' w1 ⟨rfl, hb1⟩
  go_wp2
  go_ret
  exact ⟨rfl, step_below hb0 hb1⟩


set_option maxHeartbeats 2000000 in
theorem pickWide_short (A : Option Addr) (len cap : Nat) (Z : Nat → Int) (th mo nn fr tt : Nat) (hth : th ≤ 255) (hmo : mo ≤ 255) (hnn : nn ≤ 65535) (hfr : fr ≤ 65535) (hto : tt ≤ 65535) (w : World) (hl : len ≤ 400) (hsl : Sl w A len (fun i => .int .u8 (Z i))) (hz : ∀ i, i < len → 0 ≤ Z i ∧ Z i ≤ 255) :
    Calls Try.prog 8 #[.slice A len cap, .int .u8 (th : Int), .int .u8 (mo : Int), .int .u16 (nn : Int), .int .u16 (fr : Int), .int .u16 (tt : Int)] w fun e w' => e = .returned (.bool true) ∧ Below w.heap.size w w' := by
  have hl' : ¬ (400 : Int) < (len : Int) := by omega
  obtain ⟨t, ht⟩ : ∃ t : Nat, 1 + (th : Int) % 8 = (t : Int) := ⟨1 + th % 8, by omega⟩
  obtain ⟨wn, hw⟩ : ∃ wn : Nat, 4 * (t : Int) + (mo : Int) % 16 = (wn : Int) := ⟨4 * t + mo % 16, by omega⟩
  obtain ⟨n, hn⟩ : ∃ n : Nat, (nn : Int) % 500 = (n : Int) := ⟨nn % 500, by omega⟩
  have ht1 : 1 ≤ t := by omega
  have ht8 : t ≤ 8 := by omega
  have hw4 : 4 * t ≤ wn := by omega
  have hwm : wn ≤ 1000 := by omega
  have hnm : n < 500 := by omega
  have e1 : 4 * (t : Int) ≤ 32 := by omega
  have e2 : (0 : Int) ≤ 4 * (t : Int) := by omega
  have e3 : (0 : Int) ≤ (th : Int) := by omega
  have e4 : (0 : Int) ≤ (mo : Int) := by omega
  have e5 : (0 : Int) ≤ (nn : Int) := by omega
  have HSL := Lib.hid hsl
  have HT := Lib.hid (And.intro ht (And.intro hw hn))
  clear hsl
  go_enter Try.func8, Try.ntmps8
  go_wp2_with fail
  refine (awake_any _).mono ?_
  rintro e w0 ⟨rfl, hb0⟩
  have hsl0 := HSL.out.below (Nat.le_refl _) hb0
  go_wp2_with fail
  refine (read_any A len cap Z w0 (by omega) hsl0 hz).mono ?_
  rintro e w1 ⟨cs, rfl, hblk, _, hcs, hb1⟩
  have hP := read_picks hblk hcs
  have hB1 := step_below hb0 hb1
  clear hblk hcs hsl0 hb0 hb1
  go_wp2_with fail
  refine (even_yes _ len len _ t wn n (by omega) ht1 ht8 hw4 (by omega) (by omega) w1 hP).mono ?_
  rintro e w2 ⟨v, L, D, kk, rfl, hL, hrow, hplay, hb2⟩
  have hwin := (hplay.fair ht1 ht8 hw4 (by omega) (by omega)).2.2
  obtain ⟨A2, cap2, rfl, hc2, hs2⟩ := own_picks (by rw [hL] at hrow; exact hrow) hL
  have hp2 := picks_cells hs2
  have hB2 := step_below hB1 hb2
  have HW := Lib.hid (And.intro hL hwin)
  clear hP hB1 hrow hplay hb2 hwin hL hs2
  obtain ⟨a, ha⟩ : ∃ a : Nat, (fr : Int) % ((n : Int) + 1) = (a : Int) := ⟨((fr : Int) % ((n : Int) + 1)).toNat, by have := Int.emod_nonneg (fr : Int) (show (n : Int) + 1 ≠ 0 by omega); omega⟩
  have han : a ≤ n := by
    have := Int.emod_lt_of_pos (fr : Int) (show (0 : Int) < (n : Int) + 1 by omega)
    omega
  obtain ⟨c, hc⟩ : ∃ c : Nat, (tt : Int) % ((n : Int) - (a : Int) + 1) = (c : Int) := ⟨((tt : Int) % ((n : Int) - (a : Int) + 1)).toNat, by have := Int.emod_nonneg (tt : Int) (show (n : Int) - (a : Int) + 1 ≠ 0 by omega); omega⟩
  have hcn : a + c ≤ n := by
    have := Int.emod_lt_of_pos (tt : Int) (show (0 : Int) < (n : Int) - (a : Int) + 1 by omega)
    omega
  have e6 : (0 : Int) ≤ (fr : Int) := by omega
  have e7 : (0 : Int) ≤ (tt : Int) := by omega
  have e8 : (0 : Int) < (n : Int) + 1 := by omega
  have e9 : (0 : Int) < (n : Int) - (a : Int) + 1 := by omega
  obtain ⟨w2n, hw2n⟩ : ∃ q : Nat, (wn : Int) + (mo : Int) = (q : Int) := ⟨wn + mo, by omega⟩
  go_wp2_with fail
  refine (fair_yes A2 n cap2 _ _ t w2n w2 ht1 ht8 (by omega) (by omega) (by omega) hp2).mono ?_
  rintro e w3 ⟨bl, rfl, hbl, hb3⟩
  have hf := HW.out.2.fairP ht1 (Nat.le_refl _) ht8 (show 4 * t ≤ w2n by omega) (show wn ≤ w2n by omega) 0 n (by rw [HW.out.1]; omega)
  simp only [Nat.zero_add] at hf
  obtain rfl : bl = true := hbl.2 hf
  have hp3 := hp2.below (Nat.le_refl _) hb3
  have hB3 := step_below hB2 hb3
  have e10 : (0 : Int) ≤ (a : Int) := by omega
  have e11 : (a : Int) ≤ (a : Int) + (c : Int) := by omega
  have e12 : (a : Int) + (c : Int) ≤ (cap2 : Int) := by omega
  clear hbl hf hp2 hB2 hb3
  rcases Nat.lt_or_ge a cap2 with hac | hac
  · have hne : ¬ cap2 = a := by omega
    have hs3 : Sl w3 (Option.map (fun x => x.add (a * 2)) A2) (c * 2) (pickCells (fun i => lk L (a + i)) (fun i => lv L (a + i))) := fun hp => by
      obtain ⟨b, off, rfl, hb, hcc⟩ := hp3 (by omega)
      refine ⟨b, off + a * 2, by simp [Addr.add], hb, fun i hi => ?_⟩
      have := hcc (a * 2 + i) (by omega)
      rw [Nat.add_assoc, this]
      unfold pickCells
      rw [show (a * 2 + i) % 2 = i % 2 by omega, show (a * 2 + i) / 2 = a + i / 2 by omega]
    go_wp2_with fail
    refine (fair_yes _ c _ (fun i => lk L (a + i)) (fun i => lv L (a + i)) t wn w3 ht1 ht8 hw4 (by omega) (by omega) hs3).mono ?_
    rintro e w4 ⟨bl, rfl, hbl, hb4⟩
    have hf := HW.out.2.fairP ht1 (Nat.le_refl _) ht8 hw4 (Nat.le_refl _) a c (by rw [HW.out.1]; omega)
    obtain rfl : bl = true := hbl.2 hf
    have hp4 := hp3.below (Nat.le_refl _) hb4
    have hB4 := step_below hB3 hb4
    clear hbl hf hp3 hB3 hb4
    by_cases h1t : t = 1
    · have htt : ((t : Int) == 1) = true := by rw [h1t]; rfl
      have HT1 := Lib.hid h1t
      clear h1t
      go_wp2
      go_ret
      exact ⟨rfl, hB4⟩
    · have htt : ((t : Int) == 1) = false := by simp; omega
      obtain ⟨t', ht'⟩ : ∃ t' : Nat, (t : Int) - 1 = (t' : Int) := ⟨t - 1, by omega⟩
      have gt' : t' < t := by omega
      have gt1 : 1 ≤ t' := by omega
      go_wp2_with fail
      refine (fair_yes A2 n cap2 _ _ t' wn w4 gt1 (by omega) (by omega) (by omega) (by omega) hp4).mono ?_
      rintro e w5 ⟨bl, rfl, hbl, hb5⟩
      have hf := HW.out.2.fairP gt1 (Nat.le_of_lt gt') ht8 (show 4 * t' ≤ wn by omega) (Nat.le_refl _) 0 n (by rw [HW.out.1]; omega)
      simp only [Nat.zero_add] at hf
      obtain rfl : bl = true := hbl.2 hf
      clear hbl hf
      go_wp2
      go_ret
      exact ⟨rfl, step_below hB4 hb5⟩
  · obtain rfl : cap2 = a := by omega
    have hc0 : c = 0 := by omega
    have HC0 := Lib.hid hc0
    clear hc0
    go_wp2_with fail
    refine (fair_yes A2 0 _ (fun i => lk L (cap2 + i)) (fun i => lv L (cap2 + i)) t wn w3 ht1 ht8 hw4 (by omega) (by omega) (fun hp => by omega)).mono ?_
    rintro e w4 ⟨bl, rfl, hbl, hb4⟩
    have hf := HW.out.2.fairP ht1 (Nat.le_refl _) ht8 hw4 (Nat.le_refl _) cap2 0 (by rw [HW.out.1]; omega)
    obtain rfl : bl = true := hbl.2 hf
    have hp4 := hp3.below (Nat.le_refl _) hb4
    have hB4 := step_below hB3 hb4
    clear hbl hf hp3 hB3 hb4
    by_cases h1t : t = 1
    · have htt : ((t : Int) == 1) = true := by rw [h1t]; rfl
      have HT1 := Lib.hid h1t
      clear h1t
      go_wp2
      go_ret
      exact ⟨rfl, hB4⟩
    · have htt : ((t : Int) == 1) = false := by simp; omega
      obtain ⟨t', ht'⟩ : ∃ t' : Nat, (t : Int) - 1 = (t' : Int) := ⟨t - 1, by omega⟩
      have gt' : t' < t := by omega
      have gt1 : 1 ≤ t' := by omega
      go_wp2_with fail
      refine (fair_yes A2 n cap2 _ _ t' wn w4 gt1 (by omega) (by omega) (by omega) (by omega) hp4).mono ?_
      rintro e w5 ⟨bl, rfl, hbl, hb5⟩
      have hf := HW.out.2.fairP gt1 (Nat.le_of_lt gt') ht8 (show 4 * t' ≤ wn by omega) (Nat.le_refl _) 0 n (by rw [HW.out.1]; omega)
      simp only [Nat.zero_add] at hf
      obtain rfl : bl = true := hbl.2 hf
      clear hbl hf
      go_wp2
      go_ret
      exact ⟨rfl, step_below hB4 hb5⟩

set_option maxRecDepth 100000 in
theorem pickWide_lifted (os : Os) (started : os.Started) (H : Type) (enc : TypeId × Value → H) :
    ReturnsInHanded {} Try.checked os 8 .any (Rows.pickWideSpec.pre6 enc Try.prog Try.f8 Rows.pickWideRow.domain false) (Rows.pickWideSpec.post enc Try.prog Try.f8 false true false false) := by
  refine law_lifted started (by kernel_rfl) Try.func8
    (ChangeSpec.witness6 (enc := enc) (C := Try.checked) false ⟨#[], #[.slice none 0 0, .int .u8 0, .int .u8 0, .int .u16 0, .int .u16 0, .int .u16 0], []⟩ 8 (by kernel_rfl) (by kernel_rfl) (by kernel_rfl) (by kernel_rfl))
    4 rfl (by kernel_rfl) Try.underlying4 (fun ds h => ?_) (by kernel_rfl) ?_
  · rw [show Try.f8.params.size = 6 from by kernel_rfl] at h
    match ds, h with
    | [_, _, _, _, _, _], _ => rfl
  intro W base args ds p hval hA hlt hsz
  rw [Try.params8] at hA hval hsz
  obtain ⟨v0, v1, v2, v3, v4, v5, d0, d1, d2, d3, d4, d5, p0, p1, p2, p3, p4, p5, rfl, rfl, rfl, h0, h1, h2, h3, h4, h5⟩ := trodAll_six hA
  obtain ⟨A, len, cap, Z, rfl, hlc, hcm, hsl, hwz⟩ := open_sl_ints Try.underlying29 Try.underlying5 (by kernel_rfl) (hval 0 29 v0 rfl rfl) h0 (fun x hx => hlt x (by simp [hx]))
  obtain ⟨th, rfl, rfl, rfl, s1⟩ := open_int Try.underlying5 (hval 1 5 v1 rfl rfl) h1
  obtain ⟨mo, rfl, rfl, rfl, s2⟩ := open_int Try.underlying5 (hval 2 5 v2 rfl rfl) h2
  obtain ⟨nn, rfl, rfl, rfl, s3⟩ := open_int Try.underlying40 (hval 3 40 v3 rfl rfl) h3
  obtain ⟨fr, rfl, rfl, rfl, s4⟩ := open_int Try.underlying40 (hval 4 40 v4 rfl rfl) h4
  obtain ⟨tt, rfl, rfl, rfl, s5⟩ := open_int Try.underlying40 (hval 5 40 v5 rfl rfl) h5
  have q1 := bounds_u8 s1
  have q2 := bounds_u8 s2
  have q3 := bounds_u16 s3
  have q4 := bounds_u16 s4
  have q5 := bounds_u16 s5
  by_cases h : len ≤ 400
  · obtain ⟨th, rfl⟩ : ∃ k : Nat, th = (k : Int) := ⟨th.toNat, by omega⟩
    obtain ⟨mo, rfl⟩ : ∃ k : Nat, mo = (k : Int) := ⟨mo.toNat, by omega⟩
    obtain ⟨nn, rfl⟩ : ∃ k : Nat, nn = (k : Int) := ⟨nn.toNat, by omega⟩
    obtain ⟨fr, rfl⟩ : ∃ k : Nat, fr = (k : Int) := ⟨fr.toNat, by omega⟩
    obtain ⟨tt, rfl⟩ : ∃ k : Nat, tt = (k : Int) := ⟨tt.toNat, by omega⟩
    exact pickWide_short A len cap Z th mo nn fr tt (by omega) (by omega) (by omega) (by omega) (by omega) W h hsl (fun i hi => bounds_u8 (hwz i hi))
  · exact pickWide_long A len cap _ _ _ _ _ W (by omega) (by omega)

theorem pickWide_holds : Rows.PickWideSaid :=
  OpenClaim.holds_of_wide 8 Try.f8 rfl rfl rfl rfl rfl rfl rfl ⟨rfl, rfl, rfl, rfl, rfl⟩ rfl rfl rfl rfl rfl (by kernel_rfl) Try.func8 (by kernel_rfl)
    (of_decide_eq_true (by kernel_rfl)) (by unfold Func.isWrapper; first | (rw [if_pos (by decide +kernel)]; kernel_rfl) | (rw [if_neg (by decide +kernel)]; exact ⟨rfl, rfl⟩))
    (fun os started H enc _ => pickWide_lifted os started H enc)
end Go.Proofs.Ytiodfcemggfnfaa
