/- PickEven returns true for every row of wishes and every three numbers: an even script is the document's. -/
import Derived.Test.YtiodfcemggfnfaaRefEven
namespace Go.Proofs.Ytiodfcemggfnfaa
open Go.ChangeShapes Go.WideShapes Go.ChangeAt Go.RowKit Go.Deep
set_option linter.unusedVariables false
set_option linter.unusedSimpArgs false

theorem pickEven_long (A : Option Addr) (len cap : Nat) (a b : Value) (n : Int) (w : World) (hl : 400 < len) (hm : len ≤ maxLen) :
    Calls Try.prog 6 #[.slice A len cap, a, b, .int .i64 n] w fun e w' => e = .returned (.bool true) ∧ Below w.heap.size w w' := by
  unfold maxLen at hm
  have hl' : (400 : Int) < (len : Int) := by omega
  go_enter Try.func6, Try.ntmps6
  go_wp2_with fail
  refine (awake_any _).mono ?_
  rintro e w0 ⟨rfl, hb0⟩
  go_wp2_with fail
  refine (awake_any _).mono ?_
  rintro e w1 ⟨rfl, hb1⟩
  go_wp2
  go_ret
  exact ⟨rfl, step_below hb0 hb1⟩

theorem pickEven_long2 (A : Option Addr) (len cap : Nat) (a b : Value) (n : Int) (w : World) (hl : len ≤ 400) (h1 : 400 < n) (h2 : n ≤ 100000) :
    Calls Try.prog 6 #[.slice A len cap, a, b, .int .i64 n] w fun e w' => e = .returned (.bool true) ∧ Below w.heap.size w w' := by
  have hl' : ¬ (400 : Int) < (len : Int) := by omega
  go_enter Try.func6, Try.ntmps6
  go_wp2_with fail
  refine (awake_any _).mono ?_
  rintro e w0 ⟨rfl, hb0⟩
  go_wp2_with fail
  refine (awake_any _).mono ?_
  rintro e w1 ⟨rfl, hb1⟩
  go_wp2
  go_ret
  exact ⟨rfl, step_below hb0 hb1⟩


theorem same_yes (A B : Option Addr) (n ca cb : Nat) (L : List Pk) (hn : n ≤ 1000000) (w : World) (h : SlE w A n 2 (fun i => pkc (L.getD i (0, 0)))) (h' : SlE w B n 2 (fun i => pkc (L.getD i (0, 0)))) :
    Calls Try.prog 16 #[.slice A n ca, .slice B n cb] w fun e w' => e = .returned (.bool true) ∧ ∃ q, w' = w.drewN q := by
  have H := Lib.hid (And.intro h h')
  clear h h'
  have hne : ((n : Int) != (n : Int)) = false := by simp
  go_enter Try.func16, Try.ntmps16
  go_wp2
  go_loopw [5] (fun i wr => ∃ k : Nat, k ≤ n ∧ i = .int .i64 k ∧ ∃ q, wr = w.drewN q) (fun i _ => n - (intOf i).toNat)
  case atStart => exact ⟨0, Nat.zero_le _, rfl, 0, rfl⟩
  case round =>
    obtain ⟨k, hk, rfl, q, rfl⟩ := hrel
    by_cases hkn : k < n
    · obtain ⟨b, off, rfl, hb, hc⟩ := H.out.1 (by omega)
      obtain ⟨b', off', rfl, hb', hc'⟩ := H.out.2 (by omega)
      have k0 := hc k hkn 0 _ rfl
      have k1 := hc k hkn 1 _ rfl
      have j0 := hc' k hkn 0 _ rfl
      have j1 := hc' k hkn 1 _ rfl
      rw [Nat.add_zero] at k0 j0
      obtain ⟨x, hx⟩ : ∃ x, L.getD k (0, 0) = x := ⟨_, rfl⟩
      rw [hx] at k0 k1 j0 j1
      have hk0 : (0 : Int) ≤ (k : Int) := by omega
      have hk1 : (k : Int) < (n : Int) := by omega
      clear hc hc' hx
      go_wp2
      go_quiet (fail)
      go_wp2
      go_roundw
      case rel => exact ⟨k + 1, by omega, by go_num, _, rfl⟩
      case measure => simp [intOf]; omega
    · obtain rfl : n = k := by omega
      have hk1 : ¬ (n : Int) < (n : Int) := by omega
      go_wp2
      go_ret
      exact ⟨rfl, _, rfl⟩

set_option maxHeartbeats 4000000 in
theorem pickEven_no (A : Option Addr) (len cap : Nat) (t w n : Int) (W : World) (hl : len ≤ 400) (hn : ¬ (400 < n ∧ n ≤ 100000)) (h : ¬ ((1 ≤ t ∧ t ≤ 8 ∧ 4 * t ≤ w) ∧ 0 ≤ n ∧ n ≤ 400)) :
    Calls Try.prog 6 #[.slice A len cap, .int .i64 t, .int .i64 w, .int .i64 n] W fun e w' => e = .returned (.bool true) ∧ Below W.heap.size W w' := by
  have hl' : ¬ (400 : Int) < (len : Int) := by omega
  have hE := fun W' => even_no A len cap t w n W' (by omega)
  have hways : t < 1 ∨ (1 ≤ t ∧ 8 < t) ∨ (1 ≤ t ∧ t ≤ 8 ∧ w < 4 * t) ∨ (1 ≤ t ∧ t ≤ 8 ∧ 4 * t ≤ w ∧ n < 0) ∨ (1 ≤ t ∧ t ≤ 8 ∧ 4 * t ≤ w ∧ 100000 < n) := by omega
  have hnn : n ≤ 400 ∨ (400 < n ∧ 100000 < n) := by omega
  have HE := Lib.hid hE
  clear hE h hn
  rcases hnn with h4 | ⟨h4, h5⟩ <;> rcases hways with c | ⟨c1, c2⟩ | ⟨c1, c2, c3⟩ | ⟨c1, c2, c3, c4⟩ | ⟨c1, c2, c3, c4⟩
  all_goals
    first
      | (exfalso; omega)
      | (go_enter Try.func6, Try.ntmps6
         go_wp2_with fail
         refine (awake_any _).mono ?_
         rintro e w0 ⟨rfl, hb0⟩
         go_wp2_with fail
         refine (HE.out _).mono ?_
         rintro e w1 ⟨rfl, rfl⟩
         go_wp2
         go_ret
         exact ⟨rfl, hb0⟩)

set_option maxHeartbeats 4000000 in
theorem pickEven_true (A : Option Addr) (len cap : Nat) (P : Nat → Pk) (t w n : Nat) (hl : len ≤ 400) (ht1 : 1 ≤ t) (ht8 : t ≤ 8) (hw : 4 * t ≤ w) (hw2 : w ≤ 9223372036854775807) (hn : n ≤ 400) (W : World) (hs : SlE W A len 2 (fun i => pkc (P i))) :
    Calls Try.prog 6 #[.slice A len cap, .int .i64 (t : Int), .int .i64 (w : Int), .int .i64 (n : Int)] W fun e w' => e = .returned (.bool true) ∧ Below W.heap.size W w' := by
  have hl' : ¬ (400 : Int) < (len : Int) := by omega
  have hn4 : ¬ (400 : Int) < (n : Int) := by omega
  have hn0 : ¬ (n : Int) < 0 := by omega
  have hn5 : ¬ (100000 : Int) < (n : Int) := by omega
  have c1 : ¬ (t : Int) < 1 := by omega
  have c2 : ¬ (8 : Int) < (t : Int) := by omega
  have c3 : ¬ (w : Int) < 4 * (t : Int) := by omega
  have c4 : 4 * (t : Int) ≤ 32 := by omega
  have c5 : (0 : Int) ≤ 4 * (t : Int) := by omega
  have HS := Lib.hid hs
  clear hs
  by_cases hbig : w ≤ 1099511627776
  · have hb' : ¬ (1099511627776 : Int) < (w : Int) := by omega
    go_enter Try.func6, Try.ntmps6
    go_wp2_with fail
    refine (awake_any _).mono ?_
    rintro e w0 ⟨rfl, hb0⟩
    go_wp2_with fail
    refine (even_yes A len cap P t w n (by omega) ht1 ht8 hw hw2 (by omega) w0 (HS.out.below (Nat.le_refl _) hb0)).mono ?_
    rintro e w1 ⟨v, L, D, kk, rfl, hL, hrow, hplay, hb1⟩
    obtain ⟨A1, cap1, rfl, hc1, hs1⟩ := own_picks (by rw [hL] at hrow; exact hrow) hL
    have hB1 := step_below hb0 hb1
    have HP := Lib.hid (And.intro hL hplay)
    clear hL hplay hrow hb0 hb1
    go_wp2_with fail
    refine (refEven_yes A len cap P t w n (by omega) ht1 ht8 hw hbig (by omega) w1 (HS.out.below (Nat.le_refl _) hB1)).mono ?_
    rintro e w2 ⟨v2, L2, D2, kk2, rfl, hL2, hrow2, hplay2, hb2⟩
    obtain ⟨rfl, _, _⟩ := Play.one ht8 hw hbig n (by omega) HP.out.1 hL2 HP.out.2 hplay2
    obtain ⟨A2, cap2, rfl, hc2, hs2⟩ := own_picks (by rw [hL2] at hrow2; exact hrow2) hL2
    have hB2 := step_below hB1 hb2
    have hs1' := hs1.below (Nat.le_refl _) hb2
    clear hL2 hplay2 hrow2 hb2 hB1 hs1
    go_wp2_with fail
    refine (same_yes A1 A2 n cap1 cap2 L (by omega) w2 hs1' hs2).mono ?_
    rintro e w3 ⟨rfl, q, rfl⟩
    go_wp2
    go_ret
    exact ⟨rfl, hB2.grown (row := none) ⟨rfl, rfl, rfl, Nat.le_refl _, fun _ _ _ => rfl⟩ hB2.size (fun r e => by cases e)⟩
  · have hb' : (1099511627776 : Int) < (w : Int) := by omega
    go_enter Try.func6, Try.ntmps6
    go_wp2_with fail
    refine (awake_any _).mono ?_
    rintro e w0 ⟨rfl, hb0⟩
    go_wp2_with fail
    refine (even_yes A len cap P t w n (by omega) ht1 ht8 hw hw2 (by omega) w0 (HS.out.below (Nat.le_refl _) hb0)).mono ?_
    rintro e w1 ⟨v, L, D, kk, rfl, hL, hrow, hplay, hb1⟩
    have hB1 := step_below hb0 hb1
    clear hL hplay hrow hb0 hb1
    go_wp2
    go_ret
    exact ⟨rfl, hB1⟩

set_option maxRecDepth 100000 in
theorem pickEven_lifted (os : Os) (started : os.Started) (H : Type) (enc : TypeId × Value → H) :
    ReturnsInHanded {} Try.checked os 6 .any (Rows.pickEvenSpec.pre6 enc Try.prog Try.f6 Rows.pickEvenRow.domain false) (Rows.pickEvenSpec.post enc Try.prog Try.f6 false true false false) := by
  refine law_lifted started (by kernel_rfl) Try.func6
    (ChangeSpec.witness6 (enc := enc) (C := Try.checked) false ⟨#[], #[.slice none 0 0, .int .i64 0, .int .i64 0, .int .i64 0], []⟩ 8 (by kernel_rfl) (by kernel_rfl) (by kernel_rfl) (by kernel_rfl))
    4 rfl (by kernel_rfl) Try.underlying4 (fun ds h => ?_) (by kernel_rfl) ?_
  · rw [show Try.f6.params.size = 4 from by kernel_rfl] at h
    match ds, h with
    | [_, _, _, _], _ => rfl
  intro W base args ds p hval hA hlt hsz
  rw [Try.params6] at hA hval hsz
  obtain ⟨v0, v1, v2, v3, d0, d1, d2, d3, p0, p1, p2, p3, rfl, rfl, rfl, h0, h1, h2, h3⟩ := trodAll_four hA
  obtain ⟨A, len, cap, P, rfl, hlc, hcm, hsl, _⟩ := open_sl (size := 2) Try.underlying30 (by kernel_rfl) (by omega) (fun a : Int × Int => [.int .i64 a.1, .int .i64 a.2]) _ (elem_int2 Try.underlying23 (by kernel_rfl) (by kernel_rfl) Try.underlying3 Try.underlying3) (hval 0 30 v0 rfl rfl) h0 (fun x hx => hlt x (by simp [hx]))
  obtain ⟨t, rfl, rfl, rfl, s1⟩ := open_int Try.underlying3 (hval 1 3 v1 rfl rfl) h1
  obtain ⟨w, rfl, rfl, rfl, s2⟩ := open_int Try.underlying3 (hval 2 3 v2 rfl rfl) h2
  obtain ⟨n, rfl, rfl, rfl, s3⟩ := open_int Try.underlying3 (hval 3 3 v3 rfl rfl) h3
  have q2 := bounds_i64 s2
  by_cases h : len ≤ 400
  · by_cases hn : 400 < n ∧ n ≤ 100000
    · exact pickEven_long2 A len cap _ _ n W h hn.1 hn.2
    · by_cases hv : (1 ≤ t ∧ t ≤ 8 ∧ 4 * t ≤ w) ∧ 0 ≤ n ∧ n ≤ 400
      · obtain ⟨⟨h1, h2, h3⟩, h4, h5⟩ := hv
        obtain ⟨t, rfl⟩ : ∃ k : Nat, t = (k : Int) := ⟨t.toNat, by omega⟩
        obtain ⟨w, rfl⟩ : ∃ k : Nat, w = (k : Int) := ⟨w.toNat, by omega⟩
        obtain ⟨n, rfl⟩ : ∃ k : Nat, n = (k : Int) := ⟨n.toNat, by omega⟩
        exact pickEven_true A len cap P t w n h (by omega) (by omega) (by omega) (by omega) (by omega) W hsl
      · exact pickEven_no A len cap t w n W h (by omega) (by omega)
  · exact pickEven_long A len cap _ _ n W (by omega) (by omega)

theorem pickEven_holds : Rows.PickEvenSaid :=
  OpenClaim.holds_of_wide 6 Try.f6 rfl rfl rfl rfl rfl rfl rfl ⟨rfl, rfl, rfl, rfl, rfl⟩ rfl rfl rfl rfl rfl (by kernel_rfl) Try.func6 (by kernel_rfl)
    (of_decide_eq_true (by kernel_rfl)) (by unfold Func.isWrapper; first | (rw [if_pos (by decide +kernel)]; kernel_rfl) | (rw [if_neg (by decide +kernel)]; exact ⟨rfl, rfl⟩))
    (fun os started H enc _ => pickEven_lifted os started H enc)
end Go.Proofs.Ytiodfcemggfnfaa
